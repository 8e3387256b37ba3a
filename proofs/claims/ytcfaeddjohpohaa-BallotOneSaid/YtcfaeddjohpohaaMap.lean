/-
  A map of the call's own as a function of its keys ('Mp'): made, looked into, stored into, struck from, counted. Conditions: fewer entries than Go allows.
-/
import Derived.Maps.OwnSet
import Derived.Maps.Views
import Derived.WideKeyEntry
import Derived.DeepKeys5
import Derived.Below
import Derived.Deep.Draws
import Derived.Test.YtcfaeddjohpohaaStr
namespace Ros
open Go Go.Maps Go.RowKit Go.ChangeMaps

/-- An element reads as itself. -/
def RV (v : Value) : Option (DataW Value × List MemPlace) := some (.held v, [])
/-- Block b of w is a map of n entries: at the key 'ek x' lies 'f x', if that is something. -/
def Mp {κ : Type} (w : World) (P : Program) (k : TypeId) (b n : Nat) (ek : κ → Value) (f : κ → Option Value) : Prop :=
  ∃ D, w.ownsMap P k RV b n D ∧ Maps.size D = n ∧ ∀ x kl, keyOf P k (ek x) = some kl → ∀ zd, D.atKey kl zd = (match f x with | some v => .held v | none => zd)

section
variable {κ : Type} {w w' : World} {P : Program} {k e t : TypeId} {b n : Nat} {ek : κ → Value} {f : κ → Option Value}
theorem owns_size {m : Nat} {R : Value → Option (DataW Value × List MemPlace)} {D : DataW Value} (h : w.ownsMap P k R b m D) : w.ownsMap P k R b (Maps.size D) D := by
  obtain ⟨es, clock, hb, F, _, rfl⟩ := h
  exact ⟨es, clock, hb, F, by simp [Maps.size, length_sorted], rfl⟩
theorem Mp.made (w : World) (P : Program) (k : TypeId) (ek : κ → Value) : Mp (w.alloc (.map #[] 0)) P k w.heap.size 0 ek (fun _ => none) :=
  ⟨_, World.ownsMap_made w P k RV, rfl, fun _ _ _ _ => rfl⟩
theorem Mp.lt (h : Mp w P k b n ek f) : b < w.heap.size := by obtain ⟨D, h, _⟩ := h; exact h.lt
theorem Mp.keep (h : Mp w P k b n ek f) (hk : w'.heap[b]? = w.heap[b]?) : Mp w' P k b n ek f := by
  obtain ⟨D, ⟨es, clock, hb, F, hs, hD⟩, h2, h3⟩ := h
  exact ⟨D, ⟨es, clock, hk.trans hb, F, hs, hD⟩, h2, h3⟩
theorem Mp.alloc (h : Mp w P k b n ek f) (o : Obj) : Mp (w.alloc o) P k b n ek f := h.keep (Below.heap_alloc w o b h.lt)
theorem Mp.drew (h : Mp w P k b n ek f) : Mp w.drew P k b n ek f := h
theorem Mp.drewN (h : Mp w P k b n ek f) (j : Nat) : Mp (w.drewN j) P k b n ek f := h
theorem Mp.below {B : Nat} (h : Mp w P k b n ek f) (hb : Below B w w') (hB : b < B) : Mp w' P k b n ek f := h.keep (hb.block b hB)
theorem Mp.far (h : Mp w P k b n ek f) {p : Addr} (hp : b ≠ p.block) (u : Value) : Mp (w.setCell p u) P k b n ek f := h.keep (Below.heap_setCell w p u b hp)
theorem Mp.grown {row : Option Nat} (h : Mp w P k b n ek f) (hg : w.grownBy w' row) (hr : row ≠ some b) : Mp w' P k b n ek f := h.keep (hg.block b h.lt (Ne.symm hr))
theorem Mp.congr {g : κ → Option Value} {m : Nat} (h : Mp w P k b n ek f) (hf : ∀ x, f x = g x) (hm : n = m) : Mp w P k b m ek g := by
  obtain rfl : f = g := funext hf
  subst hm
  exact h
theorem Mp.look_ (h : Mp w P k b n ek f) (K : Keyed P k) (ht : P.underlying t = some (.map k e)) {z : Value} (hz : (zeroValue e).run P w = .ok z w) {x : κ} {kl : Lit} (hkey : keyOf P k (ek x) = some kl) :
    (Instr.lookup t (.map (some b)) (ek x) false).run P w = .ok ((f x).getD z) w ∧ (Instr.lookup t (.map (some b)) (ek x) true).run P w = .ok (.tuple #[(f x).getD z, .bool (f x).isSome]) w := by
  obtain ⟨D, ⟨es, clock, hb, F, _, rfl⟩, _, hat⟩ := h
  have hat := hat x kl hkey
  constructor
  · rcases Maps.fit_look false K ht hz hb F hkey with ⟨hrun, _, h2⟩ | ⟨e0, y, _, _, hrun, hRv, h2, _⟩
    · cases hf : f x with
      | none => simpa using hrun
      | some v => have := (hat .nil).symm.trans (h2 .nil); rw [hf] at this; cases this
    · cases hf : f x with
      | none =>
        have := (hat .nil).symm.trans (h2 .nil)
        rw [hf] at this
        have hy : y = (.held e0.val, []) := by simpa [RV] using hRv.symm
        rw [hy] at this; cases this
      | some v =>
        have := (hat .nil).symm.trans (h2 .nil)
        rw [hf] at this
        have hy : y = (.held e0.val, []) := by simpa [RV] using hRv.symm
        rw [hy] at this
        cases this
        simpa using hrun
  · rcases Maps.fit_look true K ht hz hb F hkey with ⟨hrun, _, h2⟩ | ⟨e0, y, _, _, hrun, hRv, h2, _⟩
    · cases hf : f x with
      | none => simpa using hrun
      | some v => have := (hat .nil).symm.trans (h2 .nil); rw [hf] at this; cases this
    · cases hf : f x with
      | none =>
        have := (hat .nil).symm.trans (h2 .nil)
        rw [hf] at this
        have hy : y = (.held e0.val, []) := by simpa [RV] using hRv.symm
        rw [hy] at this; cases this
      | some v =>
        have := (hat .nil).symm.trans (h2 .nil)
        rw [hf] at this
        have hy : y = (.held e0.val, []) := by simpa [RV] using hRv.symm
        rw [hy] at this
        cases this
        simpa using hrun
theorem Mp.len_ (h : Mp w P k b n ek f) (ht : P.underlying t = some (.map k e)) (ty : TypeId) : (Builtin.len_ #[t] ty #[.map (some b)]).run P w = .ok (.int .i64 (n : Int)) w := by
  obtain ⟨D, h, hs, _⟩ := h
  rw [← hs]
  exact h.len ht ty
theorem atKey_has {D : DataW Value} {kl : Lit} {o : Option Value} (h : ∀ zd, D.atKey kl zd = (match o with | some v => .held v | none => zd)) : Maps.has D kl = o.isSome := by
  cases o with
  | none => exact Maps.has_false_of_atKey h
  | some v => exact Maps.has_true_of_atKey h
theorem Mp.put_ [DecidableEq κ] {D : DataW Value} (K : Keyed P k) (hinj : ∀ x y, ek x = ek y → x = y) (hm : Maps.IsMap D) (h3 : ∀ x kl, keyOf P k (ek x) = some kl → ∀ zd, D.atKey kl zd = (match f x with | some v => .held v | none => zd))
    {x : κ} {kl : Lit} (hkey : keyOf P k (ek x) = some kl) (val : Value) : ∀ y kl', keyOf P k (ek y) = some kl' → ∀ zd, (D.put kl (.held val)).atKey kl' zd = (match (if y = x then some val else f y) with | some v => .held v | none => zd) := by
  intro y kl' hy zd
  by_cases hyx : y = x
  · subst hyx
    rw [hkey] at hy
    cases hy
    rw [if_pos rfl, Maps.atKey_put_same hm (K.key hkey)]
  · rw [if_neg hyx, Maps.atKey_put_other (fun e => by subst e; exact hyx (hinj _ _ (K.inj hy hkey)))]
    exact h3 y kl' hy zd
theorem Mp.store_ [DecidableEq κ] (h : Mp w P k b n ek f) (K : Keyed P k) (hinj : ∀ x y, ek x = ek y → x = y) (ht : P.underlying t = some (.map k e)) (hn : n < maxLen) {x : κ} {kl : Lit} (hkey : keyOf P k (ek x) = some kl) (val : Value) :
    ∃ w', (Instr.mapUpdate t (.map (some b)) (ek x) val).run P w = .ok () w' ∧ Mp w' P k b (if (f x).isSome then n else n + 1) ek (fun y => if y = x then some val else f y) ∧ w.grownBy w' (some b) := by
  obtain ⟨D, h1, h2, h3⟩ := h
  obtain ⟨w', hrun, hown, hg⟩ := h1.store K ht hn hkey (val := val) (d := .held val) (ps := []) rfl
  have hs := Maps.size_put (k := kl) (h1.tidy K) (.held val)
  rw [atKey_has (h3 x kl hkey), h2] at hs
  refine ⟨w', hrun, ⟨D.put kl (.held val), hs ▸ owns_size hown, hs, Mp.put_ K hinj h1.isMap h3 hkey val⟩, hg.grown⟩
theorem entry_is_update {H : Type} {R : Value → Option (DataW H × List MemPlace)} {es : Array MapEntry} {clock : Nat} (K : WideMaps.KeyLaw P k) (ht : P.underlying t = some (.map k e)) {z : Value} (hz : ∀ u : World, (zeroValue e).run P u = .ok z u) (hb : w.heap[b]? = some (.map es clock)) (F : WideElems.Fit P k R es clock)
    {key : Value} {kl : Lit} (hkey : keyOf P k key = some kl) : ∃ v0 st w1, (Instr.mapEntry t (.map (some b)) key).run P w = .ok (.tuple #[v0, goInt st]) w1 ∧ (Instr.mapUpdate t (.map (some b)) key v0).run P w = .ok () w1 := by
  rcases K.find w hkey es.toList F.keys with ⟨h1, h2⟩ | ⟨j, e0, h1, h2, h3⟩
  · refine ⟨z, clock, setBlock w b (.map (es.push ⟨key, z, clock⟩) (clock + 1)), ?_, ?_⟩
    · simp [Instr.mapEntry, run_underlying ht, MapKept.run_getObj_map hb, K.check w false hkey, h1, hz, MapKept.run_setObj_map _ hb, Result.andThen, setBlock]
    · simp [Instr.mapUpdate, run_underlying ht, MapKept.run_getObj_map hb, K.check w false hkey, h1, MapKept.run_setObj_map _ hb, Result.andThen, setBlock]
  · have hj : es[j]? = some e0 := by simpa using h2
    refine ⟨e0.val, e0.born, setBlock w b (.map (es.modify j (fun e' => { e' with key := key, val := e0.val })) clock), ?_, ?_⟩
    · have hsame : es.modify j (fun e => { e with key := key }) = es.modify j (fun e' => { e' with key := key, val := e0.val }) := by
        apply Array.ext_getElem?
        intro i
        rw [Array.getElem?_modify, Array.getElem?_modify]
        split
        · rename_i hi; subst hi; rw [hj]; rfl
        · rfl
      simp [Instr.mapEntry, run_underlying ht, MapKept.run_getObj_map hb, K.check w false hkey, h1, hj, h3, K.stays w hkey, hsame, MapKept.run_setObj_map _ hb, Result.andThen, setBlock]
    · simp [Instr.mapUpdate, run_underlying ht, MapKept.run_getObj_map hb, K.check w false hkey, h1, hj, h3, K.stays w hkey, MapKept.run_setObj_map _ hb, Result.andThen, setBlock]
/-- 'm[k]++' and its kin: the entry, then the store. -/
theorem Mp.entry_ [DecidableEq κ] (h : Mp w P k b n ek f) (K : WideMaps.KeyLaw P k) (hinj : ∀ x y, ek x = ek y → x = y) (ht : P.underlying t = some (.map k e)) {z : Value} (hz : ∀ u : World, (zeroValue e).run P u = .ok z u) (hn : n + 1 < maxLen) {x : κ} {kl : Lit} (hkey : keyOf P k (ek x) = some kl) :
    ∃ (v0 : Value) (st : Nat) (w1 : World), (Instr.mapEntry t (.map (some b)) (ek x)).run P w = .ok (.tuple #[v0, goInt st]) w1 ∧ (∃ m, m ≤ n + 1 ∧ Mp w1 P k b m ek (fun y => if y = x then some v0 else f y)) ∧ w.grownBy w1 (some b) ∧ v0 = (f x).getD z ∧
      ∀ val, ∃ w', (Instr.entryStore t (.map (some b)) (goInt st) val).run P w1 = .ok () w' ∧ Mp w' P k b (if (f x).isSome then n else n + 1) ek (fun y => if y = x then some val else f y) ∧ w.grownBy w' (some b) := by
  have hlook := h.look_ (Keyed.of_law K) ht (hz w) hkey
  have hstore := fun val => h.store_ (Keyed.of_law K) hinj ht (by omega) hkey val
  obtain ⟨D, h1, h2, h3⟩ := h
  have h1' := h1
  obtain ⟨es, clock, hb, F, hsz, hD⟩ := h1'
  obtain ⟨v0, st, es1, clock1, hr1, hv0, hr2⟩ := WideElems.entry_then_store K ht hz hb F hkey
  obtain ⟨v0', st', w1', hr1', hu⟩ := entry_is_update (b := b) (w := w) K ht hz hb F hkey
  rw [hr1] at hr1'
  injection hr1' with e1 e2
  simp only [Value.tuple.injEq, Array.mk.injEq, List.cons.injEq] at e1
  obtain ⟨e3, _⟩ := e1
  subst e3 e2
  obtain ⟨w2, hrun2, hM2, hg2⟩ := hstore v0
  rw [hu] at hrun2
  injection hrun2 with _ e4
  subst e4
  refine ⟨v0, st, _, hr1, ⟨_, by split <;> omega, hM2⟩, hg2, ?_, fun val => ?_⟩
  · have hl := hlook.1
    rcases Maps.fit_look false (Keyed.of_law K) ht (hz w) hb F hkey with ⟨hrun, hno, _⟩ | ⟨e0, y, he0, hk0, hrun, _⟩
    · rw [hl] at hrun
      injection hrun with e5
      rcases hv0 with ⟨x0, hx0, hk, _⟩ | ⟨_, hz0⟩
      · exact absurd hk (hno _ hx0)
      · rw [hz0]; exact e5.symm
    · rw [hl] at hrun
      injection hrun with e5
      rcases hv0 with ⟨x0, hx0, hk, hv⟩ | ⟨hno, _⟩
      · have := F.stamped.2.2
        have hx : x0 = e0 := by
          obtain ⟨i, hi, rfl⟩ := List.mem_iff_getElem.1 hx0
          obtain ⟨j, hj, rfl⟩ := List.mem_iff_getElem.1 he0
          rcases Nat.lt_trichotomy i j with hij | hij | hij
          · have hne := List.pairwise_iff_getElem.1 this i j (by simpa using hi) (by simpa using hj) hij; rw [List.getElem_map, List.getElem_map, hk, hk0] at hne; exact absurd rfl hne
          · subst hij; rfl
          · have hne := List.pairwise_iff_getElem.1 this j i (by simpa using hj) (by simpa using hi) hij; rw [List.getElem_map, List.getElem_map, hk, hk0] at hne; exact absurd rfl hne
        rw [hv, hx]; exact e5.symm
      · exact absurd hk0 (hno _ he0)
  · obtain ⟨es', clock', hs1, hs2⟩ := hr2 (setBlock w b (.map es1 clock1)) val (heap_setBlock_same hb _)
    obtain ⟨w', hrun, hM, hg⟩ := hstore val
    have hw : w' = setBlock w b (.map es' clock') := by rw [hs2] at hrun; injection hrun with _ e; exact e.symm
    refine ⟨w', ?_, hM, hg⟩
    rw [hs1, hw]
    congr 1
    simp [setBlock]
theorem Mp.drop_ [DecidableEq κ] (h : Mp w P k b n ek f) (K : Keyed P k) (hinj : ∀ x y, ek x = ek y → x = y) (ht : P.underlying t = some (.map k e)) {x : κ} {kl : Lit} (hkey : keyOf P k (ek x) = some kl) (ty : TypeId) :
    ∃ w', (Builtin.delete_ #[t, k] ty #[.map (some b), ek x]).run P w = .ok (.tuple #[]) w' ∧ Mp w' P k b (if (f x).isSome then n - 1 else n) ek (fun y => if y = x then none else f y) ∧ w.grownBy w' (some b) := by
  obtain ⟨D, h1, h2, h3⟩ := h
  obtain ⟨w', hrun, hown, hg⟩ := h1.drop K ht hkey ty
  have hs := Maps.size_del (k := kl) (h1.tidy K)
  rw [atKey_has (h3 x kl hkey), h2] at hs
  have hs' : Maps.size (D.del kl) = if (f x).isSome then n - 1 else n := by split at hs <;> simp_all <;> omega
  refine ⟨w', hrun, ⟨D.del kl, hs' ▸ owns_size hown, hs', fun y kl' hy zd => ?_⟩, hg.grown⟩
  dsimp only
  by_cases hyx : y = x
  · subst hyx
    rw [hkey] at hy
    cases hy
    rw [if_pos rfl, Maps.atKey_del_same]
  · rw [if_neg hyx, Maps.atKey_del_other (fun e => by subst e; exact hyx (hinj _ _ (K.inj hy hkey)))]
    exact h3 y kl' hy zd
end
end Ros
