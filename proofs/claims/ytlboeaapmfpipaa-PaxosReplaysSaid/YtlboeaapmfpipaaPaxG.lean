/-
  A node learns. Conditions: a million changes at most; instances are as the program's types allow.
-/
import Derived.Test.YtlboeaapmfpipaaPaxE
namespace Ros
open Go Go.RowKit Go.Maps Go.ChangeMaps
theorem growL_at (known : Int → Option ByteArray) : ∀ (m f len : Nat), m ≤ f → (∀ j, j < m → (known ((len + 1 + j : Nat) : Int)).isSome = true) → (m = f ∨ known ((len + 1 + m : Nat) : Int) = none) → growL known f len = len + m
  | 0, 0, len, _, _, _ => rfl
  | 0, f + 1, len, _, _, h => by
    rcases h with h | h
    · omega
    · unfold growL
      rw [Nat.add_zero] at h
      rw [if_neg (by rw [h]; simp)]; rfl
  | m + 1, 0, len, h, _, _ => by omega
  | m + 1, f + 1, len, h, h2, h3 => by
    unfold growL
    rw [if_pos (by have := h2 0 (by omega); simpa using this), growL_at known m f (len + 1) (by omega) (fun j hj => by have := h2 (j + 1) (by omega); rwa [show len + 1 + (j + 1) = len + 1 + 1 + j by omega] at this) (by
      rcases h3 with h3 | h3
      · exact .inl (by omega)
      · exact .inr (by rwa [show len + 1 + (m + 1) = len + 1 + 1 + m by omega] at h3))]
    omega
theorem encLn_or (o : Option ByteArray) : (o.map encLn).getD (encLn ⟨#[]⟩) = encLn (o.getD ⟨#[]⟩) := by cases o <;> rfl
theorem isSome_map' (o : Option ByteArray) : (o.map encLn).isSome = o.isSome := by cases o <;> rfl
theorem own_turn {β : Type} {B : Nat} {S : Nat → Prop} {w : World} (h : w.heap.size ≤ B) : OwnFrom B (fun (_ : β) W => Turn S S w W) :=
  fun _ _ _ _ hs hg hr => hs.grown hg (fun k e => .inr (Nat.le_trans h (hr k e).1))
theorem nlearn_bad {s : Nd} {i : Int} {v : ByteArray} (h : ¬ (isI i = true ∧ v.size ≤ 4000)) : nlearn s i v = (([], 2), s) := if_neg h
theorem nlearn_old {s : Nd} {i : Int} {v old : ByteArray} (h : isI i = true ∧ v.size ≤ 4000) (h2 : s.known i = some old) : nlearn s i v = (([], if old = v then 0 else 91), s) := by unfold nlearn; rw [if_pos h, h2]
theorem nlearn_new {s : Nd} {i : Int} {v : ByteArray} (h : isI i = true ∧ v.size ≤ 4000) (h2 : s.known i = none) : nlearn s i v = ((recI 100 i (bl v), 0), { s with known := updI s.known i v, len := growL (updI s.known i v) (10000 - s.len) s.len }) := by unfold nlearn; rw [if_pos h, h2]
theorem rec_learn (b : UInt8) (k : Nat) (v : ByteArray) : b :: (toB 4 k ++ [v].flatMap bl) = recI b (k : Int) (bl v) := by
  simp [recI, List.flatMap_cons]
theorem joinB_learn (v : ByteArray) (h : v.size ≤ 4000) : (joinB [v]).size ≤ 100000 := by
  rw [size_bl, bl_joinB]
  simp only [List.flatMap_cons, List.flatMap_nil, List.append_nil, ← size_bl]
  omega
theorem turn_put {S S' : Nat → Prop} {w W : World} {D : Nat} {o : Obj} (h : Turn S S' w W) (hD : w.heap.size ≤ D) : Turn S S' w (W.putObj D o) :=
  h.grown (grownBy_putObj' W D o) (fun k e => by cases e; exact .inr hD)
end Ros
namespace Go.Proofs.Ytlboeaapmfpipaa
open Go.RowKit Go.Shelf Ros
attribute [local go_sem] Oper.semAt_some
theorem NdA.put {w : World} {S : Nat → Prop} {g c D : Nat} {s : Nd} {o : Obj} (h : NdA w S g s c) (hD : ¬ S D) : NdA (w.putObj D o) S g s c :=
  h.keep fun k hk => World.putObj_heap_other (fun e => hD (by subst e; exact hk))
theorem own_nda {β : Type} {B : Nat} {S : Nat → Prop} {g c : Nat} (f : β → Nd) (hS : ∀ k, S k → k < B) : OwnFrom B (fun s W => NdA W S g (f s) c) :=
  fun _ _ _ _ hs hg hr => hs.keep (fun k hk => hg.block k (hs.lt k hk) (fun e => by have := (hr k e.symm).1; have := hS k hk; omega))
/-- What a look into what was learned gives. -/
theorem known_look {w : World} {S : Nat → Prop} {g c : Nat} {s : Nd} (h : NdA w S g s c) {i : Int} (hi : -9223372036854775808 ≤ i ∧ i ≤ 9223372036854775807) :
    ∃ bk, w.cell? ⟨g, 1, none⟩ = some (.map (some bk)) ∧ w.cell? ⟨g, 2, none⟩ = some (.int .i64 (s.len : Int)) ∧ w.frozen? ⟨g, 2, none⟩ = false ∧
      (Instr.lookup 55 (.map (some bk)) (.int .i64 i) true).run Try.prog w = .ok (.tuple #[.agg #[.string ((s.known i).getD ⟨#[]⟩)], .bool (s.known i).isSome]) w ∧
      (Instr.lookup 55 (.map (some bk)) (.int .i64 i) false).run Try.prog w = .ok (.agg #[.string ((s.known i).getD ⟨#[]⟩)]) w := by
  obtain ⟨bv, bk, nv, nk, hg, hv, hk, _⟩ := h
  obtain ⟨kl, hkey⟩ := int_key hi
  have hlk := hk.look_ (e := 66) (t := 55) (z := encLn ⟨#[]⟩) (Maps.int_keyed Try.underlying3) Try.underlying55 (by rfl) hkey
  unfold knownV at hlk
  rw [encLn_or, isSome_map'] at hlk
  exact ⟨bk, cell_row hg 1, cell_row hg 2, obj_frozen hg 2, hlk.2, hlk.1⟩
/-- A node's length is set. -/
theorem NdA.setLen {w : World} {S : Nat → Prop} {g c : Nat} {s : Nd} (h : NdA w S g s c) (m : Nat) : NdA (w.setCell ⟨g, 2, none⟩ (.int .i64 (m : Int))) S g { s with len := m } c := by
  obtain ⟨bv, bk, nv, nk, hg, hv, hk, h1, h2, h3, hS⟩ := h
  exact ⟨bv, bk, nv, nk, obj_set hg 2 _, hv.far h3.1.symm _, hk.far h3.2.1.symm _, h1, h2, h3, hS⟩
/-- A value is laid beside an instance. -/
theorem NdA.learn {w : World} {S : Nat → Prop} {g c : Nat} {s : Nd} (h : NdA w S g s c) (hc : c ≤ 1000000) {i : Int} (hi : -9223372036854775808 ≤ i ∧ i ≤ 9223372036854775807) (v : ByteArray) :
    ∃ bk w', w.cell? ⟨g, 1, none⟩ = some (.map (some bk)) ∧ (Instr.mapUpdate 55 (.map (some bk)) (.int .i64 i) (.agg #[.string v])).run Try.prog w = .ok () w' ∧ NdA w' S g { s with known := updI s.known i v } (c + 1) ∧ Turn S S w w' := by
  have hlt := h.lt
  obtain ⟨bv, bk, nv, nk, hg, hv, hk, hn1, hn2, hne, hS⟩ := h
  obtain ⟨kl, hkey⟩ := int_key hi
  obtain ⟨w2, hrun, hM, hgr⟩ := hk.store_ (Maps.int_keyed Try.underlying3) ekI_inj Try.underlying55 (by unfold maxLen; omega) hkey (encLn v)
  refine ⟨bk, w2, cell_row hg 1, hrun, ⟨bv, bk, nv, _, ?_, ?_, hM.congr (fun x => congrFun (upd_map s.known encLn i v) x) rfl, by omega, ?_, hne, hS⟩, ?_⟩
  · exact (hgr.block g (obj_lt hg) (fun e => hne.2.1 (by cases e; rfl))).trans hg
  · exact hv.grown hgr (fun e => by cases e; exact hne.2.2 rfl)
  · split <;> omega
  · exact (Turn.refl hlt).grown hgr (fun k e => by cases e; exact .inl ((hS _).2 (.inr (.inr rfl))))
theorem learn_nil (i : Int) (v : ByteArray) (w : World) :
    Calls Try.prog 14 #[.pointer none, .int .i64 i, .string v] w fun e w' => e = .returned (.tuple #[.string ⟨#[]⟩, .int .i64 1]) ∧ Below w.heap.size w w' := by
  refine calls_marksP Try.func14 rfl ?_
  simp only [Try.ntmps14, List.size_toArray, List.length_cons, List.length_nil, Nat.reduceAdd, Nat.reduceSub, Array.replicate_succ, Array.replicate_zero, List.push_toArray, List.append_toArray, List.nil_append, List.cons_append]
  go_wp2
  refine wp_scope_straight ?_
  go_wp2
  rw [Exit.noGoto_ret]
  exact leaves_plain2 rfl ⟨rfl, (Below.refl _ w).alloc (Nat.le_refl _) _⟩
set_option maxRecDepth 100000 in
set_option maxHeartbeats 1000000 in
theorem learn_bad (i : Int) (v : ByteArray) (hv : v.size ≤ 140737488355328) (w : World) (g : Nat) (hb : ¬ (isI i = true ∧ v.size ≤ 4000)) :
    Calls Try.prog 14 #[.pointer (some ⟨g, 0, none⟩), .int .i64 i, .string v] w fun e w' => e = .returned (.tuple #[.string ⟨#[]⟩, .int .i64 2]) ∧ Below w.heap.size w w' := by
  have HI := Lib.hid (fun W : World => isInst_any i W)
  by_cases h1 : isI i = true
  · have h2 : ¬ v.size ≤ 4000 := fun e => hb ⟨h1, e⟩
    rw [h1] at HI
    clear hb h1
    refine calls_marksP Try.func14 rfl ?_
    simp only [Try.ntmps14, List.size_toArray, List.length_cons, List.length_nil, Nat.reduceAdd, Nat.reduceSub, Array.replicate_succ, Array.replicate_zero, List.push_toArray, List.append_toArray, List.nil_append, List.cons_append]
    go_wp2
    refine wp_scope_straight ?_
    go_wp2_with (go_at_call 28; refine (HI.out _).mono ?_; rintro e w1 ⟨rfl, rfl⟩)
    rw [Exit.noGoto_ret]
    exact leaves_plain2 rfl ⟨rfl, (Below.refl _ w).alloc (Nat.le_refl _) _⟩
  · rw [Bool.not_eq_true] at h1
    rw [h1] at HI
    clear hb h1
    refine calls_marksP Try.func14 rfl ?_
    simp only [Try.ntmps14, List.size_toArray, List.length_cons, List.length_nil, Nat.reduceAdd, Nat.reduceSub, Array.replicate_succ, Array.replicate_zero, List.push_toArray, List.append_toArray, List.nil_append, List.cons_append]
    go_wp2
    refine wp_scope_straight ?_
    go_wp2_with (go_at_call 28; refine (HI.out _).mono ?_; rintro e w1 ⟨rfl, rfl⟩)
    rw [Exit.noGoto_ret]
    exact leaves_plain2 rfl ⟨rfl, (Below.refl _ w).alloc (Nat.le_refl _) _⟩
set_option maxRecDepth 100000 in
set_option maxHeartbeats 1000000 in
theorem learn_old (i : Int) (v old : ByteArray) (w : World) (S : Nat → Prop) (g c : Nat) (s : Nd) (h : NdA w S g s c) (h1 : isI i = true) (h2 : v.size ≤ 4000) (hk : s.known i = some old) :
    Calls Try.prog 14 #[.pointer (some ⟨g, 0, none⟩), .int .i64 i, .string v] w fun e w' => e = .returned (.tuple #[.string ⟨#[]⟩, .int .i64 (if old = v then 0 else 91)]) ∧ Below w.heap.size w w' := by
  have HI := Lib.hid (fun W : World => isInst_any i W)
  rw [h1] at HI
  obtain ⟨bk, c1, _, _, l1, _⟩ := known_look (h.below ((Below.refl _ w).alloc (Nat.le_refl _) (.cells #[.pointer (some ⟨g, 0, none⟩)] 24))) (i := i) (by have := isI_iff.1 h1; omega)
  rw [hk] at l1
  dsimp only [Option.getD_some, Option.isSome_some] at l1
  clear h h1 hk
  by_cases he : old = v
  · subst he
    rw [if_pos rfl]
    refine calls_marksP Try.func14 rfl ?_
    simp only [Try.ntmps14, List.size_toArray, List.length_cons, List.length_nil, Nat.reduceAdd, Nat.reduceSub, Array.replicate_succ, Array.replicate_zero, List.push_toArray, List.append_toArray, List.nil_append, List.cons_append]
    go_wp2
    refine wp_scope_straight ?_
    go_wp2_with (go_at_call 28; refine (HI.out _).mono ?_; rintro e w1 ⟨rfl, rfl⟩)
    rw [Exit.noGoto_ret]
    exact leaves_plain2 rfl ⟨rfl, ((Below.refl _ w).alloc (Nat.le_refl _) _).alloc (by simp) _⟩
  · rw [if_neg he]
    have hq : (old.toList == v.toList) = false := by rw [beq_bl, decide_eq_false_iff_not]; exact he
    refine calls_marksP Try.func14 rfl ?_
    simp only [Try.ntmps14, List.size_toArray, List.length_cons, List.length_nil, Nat.reduceAdd, Nat.reduceSub, Array.replicate_succ, Array.replicate_zero, List.push_toArray, List.append_toArray, List.nil_append, List.cons_append]
    go_wp2
    refine wp_scope_straight ?_
    go_wp2_with (go_at_call 28; refine (HI.out _).mono ?_; rintro e w1 ⟨rfl, rfl⟩)
    rw [Exit.noGoto_ret]
    exact leaves_plain2 rfl ⟨rfl, ((Below.refl _ w).alloc (Nat.le_refl _) _).alloc (by simp) _⟩

/-- What the rounds of a node's learning abide, and how they end. -/
def LrI (w : World) (S : Nat → Prop) (g c Bs : Nat) (s : Nd) (pre : List Nat) (W : World) : Prop :=
  NdA W S g { s with len := s.len + pre.length } c ∧ Turn S S w W ∧ W.heap[w.heap.size]? = some (.cells #[.pointer (some ⟨g, 0, none⟩)] 24 (0, 0)) ∧ W.heap[Bs]? = some (.cells #[.int .i64 (s.len : Int)] 3 (0, 0)) ∧ ∀ j, j < pre.length → (s.known ((s.len + 1 + j : Nat) : Int)).isSome = true
def LrX (w : World) (S : Nat → Prop) (g c : Nat) (s : Nd) (co : Code) (pre : List Nat) (W : World) : Prop :=
  co = .exit 0 ∧ ∃ m, m + 1 = pre.length ∧ NdA W S g { s with len := s.len + m } c ∧ Turn S S w W ∧ (∀ j, j < m → (s.known ((s.len + 1 + j : Nat) : Int)).isSome = true) ∧ s.known ((s.len + 1 + m : Nat) : Int) = none
theorem own_lrI {B : Nat} {w : World} {S : Nat → Prop} {g c Bs : Nat} {s : Nd} (hS : ∀ k, S k → k < B) (hw : w.heap.size ≤ B) : OwnFrom B (LrI w S g c Bs s) :=
  (own_nda _ hS).and ((own_turn hw).and ((own_cells _ _ _ _ _).and ((own_cells _ _ _ _ _).and (own_pure _ _))))
theorem own_lrX {B : Nat} {w : World} {S : Nat → Prop} {g c : Nat} {s : Nd} (hS : ∀ k, S k → k < B) (hw : w.heap.size ≤ B) (co : Code) : OwnFrom B (LrX w S g c s co) := by
  rintro pre W W' row ⟨rfl, m, hm, h1, h2, h3⟩ hg hr
  exact ⟨rfl, m, hm, own_nda (fun (_ : Unit) => { s with len := s.len + m }) hS () W W' row h1 hg hr, own_turn (β := Unit) hw () W W' row h2 hg hr, h3⟩
set_option maxRecDepth 100000 in
set_option maxHeartbeats 4000000 in
theorem learn_new (k : Nat) (v : ByteArray) (w : World) (S : Nat → Prop) (g c : Nat) (s : Nd) (h : NdA w S g s c) (hc : c ≤ 1000000) (hlen : s.len ≤ 10000) (h1 : isI (k : Int) = true) (h2 : v.size ≤ 4000) (hk : s.known (k : Int) = none) :
    Calls Try.prog 14 #[.pointer (some ⟨g, 0, none⟩), .int .i64 (k : Int), .string v] w fun e w' => e = .returned (.tuple #[.string (str (recI 100 (k : Int) (bl v))), .int .i64 0]) ∧ NdA w' S g { s with known := updI s.known (k : Int) v, len := growL (updI s.known (k : Int) v) (10000 - s.len) s.len } (c + 1) ∧ Turn S S w w' := by
  have hi2 := isI_iff.1 h1
  have hi : -9223372036854775808 ≤ (k : Int) ∧ (k : Int) ≤ 9223372036854775807 := by omega
  have HI := Lib.hid (fun W : World => isInst_any (k : Int) W)
  rw [h1] at HI
  have hS := h.lt
  have hSg : S g := by obtain ⟨bv, bk, nv, nk, _, _, _, _, _, _, hh⟩ := h; exact (hh g).2 (.inl rfl)
  have hgw := hS g hSg
  have b0 := (Below.refl _ w).alloc (Nat.le_refl _) (.cells #[.pointer (some ⟨g, 0, none⟩)] 24)
  have b1 := b0.alloc b0.size (.cells #[.string ⟨#[]⟩] 66)
  obtain ⟨bk, c1, _, _, l1, l1'⟩ := known_look (h.below b0) hi
  clear l1'
  rw [hk] at l1
  dsimp only [Option.getD_none, Option.isSome_none] at l1
  obtain ⟨bk', w2, c2, r2, n2, t2⟩ := (h.below b1).learn hc hi v
  obtain rfl : bk' = bk := by
    have e1 := known_look (h.below b1) hi
    obtain ⟨bv, bk0, nv, nk, hg, _⟩ := h
    have e2 := cell_row (obj_alloc hg (.cells #[.pointer (some ⟨g, 0, none⟩)] 24)) 1
    have e3 := cell_row (obj_alloc (obj_alloc hg (.cells #[.pointer (some ⟨g, 0, none⟩)] 24)) (.cells #[.string ⟨#[]⟩] 66)) 1
    rw [c1] at e2; rw [c2] at e3
    rw [← e2] at e3
    simpa using e3
  have hq := known_eql bk'
  have hbx : w2.heap[w.heap.size]? = some (.cells #[.pointer (some ⟨g, 0, none⟩)] 24 (0, 0)) :=
    (t2.block _ (by simp; omega) (fun e => by have := hS _ e; omega)).trans (obj_alloc (World.alloc_heap_new w _) _)
  have hb2 := cell_row hbx 0
  simp only [List.getElem?_toArray, List.getElem?_cons_zero] at hb2
  obtain ⟨_, l1', c3, l2', l3', l4'⟩ := known_look n2 hi
  clear l1' l2' l3' l4'
  have T2 := Lib.hid ((Turn.of_below b1 hS).trans t2)
  have N2 := Lib.hid n2
  have hz2 : w.heap.size + 2 ≤ w2.heap.size := by have := t2.size; simp at this; omega
  have BX := Lib.hid hbx
  have HR := Lib.hid (fun W : World => record_any 100 100 rfl k (by omega) (some ⟨W.heap.size, 0, none⟩) 1 [v] (W.alloc (.cells #[.string v] 9)) (argTexts (World.alloc_heap_new W _)) (by simp) (joinB_learn v h2))
  rw [rec_learn] at HR
  generalize str (recI 100 (k : Int) (bl v)) = R at *
  dsimp only [List.length_cons, List.length_nil, Nat.reduceAdd] at HR
  clear t2 n2 hbx b0 b1 h h1 hi2 hk
  refine calls_marksP Try.func14 rfl ?_
  simp only [Try.ntmps14, List.size_toArray, List.length_cons, List.length_nil, Nat.reduceAdd, Nat.reduceSub, Array.replicate_succ, Array.replicate_zero, List.push_toArray, List.append_toArray, List.nil_append, List.cons_append]
  go_wp2
  refine wp_scope_straight ?_
  go_wp2_with (first
    | (go_at_call 28; refine (HI.out _).mono ?_; rintro e w1 ⟨rfl, rfl⟩)
    | (go_at_call 29; refine (behind_any _ _).mono ?_; rintro e w3 ⟨rfl, rfl⟩))
  refine wp_label ?_
  go_wp2_with (go_at_call 29; refine (behind_any _ _).mono ?_; rintro e w3 ⟨rfl, rfl⟩)
  have hz3 : (w2.alloc (.cells #[.int .i64 (s.len : Int)] 3)).heap.size = w2.heap.size + 1 := by simp
  have hS3 : ∀ k, S k → k < (w2.alloc (.cells #[.int .i64 (s.len : Int)] 3)).heap.size := fun k hk => by have := hS k hk; omega
  obtain ⟨s1, hs1⟩ : ∃ s1 : Nd, s1 = { s with known := updI s.known (k : Int) v } := ⟨_, rfl⟩
  have hlen1 : s1.len = s.len := by rw [hs1]
  have hfin : ∀ m, m ≤ 10000 - s.len → (∀ j, j < m → (s1.known ((s1.len + 1 + j : Nat) : Int)).isSome = true) → (m = 10000 - s.len ∨ s1.known ((s1.len + 1 + m : Nat) : Int) = none) →
      ({ s1 with len := s1.len + m } : Nd) = { s with known := updI s.known (k : Int) v, len := growL (updI s.known (k : Int) v) (10000 - s.len) s.len } := fun m hm h1 h2 => by
    subst hs1
    have e := growL_at (updI s.known (k : Int) v) m (10000 - s.len) s.len hm h1 h2
    rw [e]
  have HF := Lib.hid hfin
  rw [← hs1] at N2
  clear hfin
  rw [← hlen1] at HF hz3 hS3 hlen ⊢
  have HL1 := Lib.hid hlen1
  clear hs1 hlen1 c1 c2 c3 r2 l1 hq hb2
  refine range_lawP (gf := 34) (lb := #[.pointer (some ⟨w2.heap.size, 0, none⟩)]) rfl (enters_of Try.func34 (by kernel_rfl) rfl) (behind1_iter w2.heap.size s1.len hlen) (fun _ => rfl)
    (LrI w S g (c + 1) w2.heap.size s1) (LrX w S g (c + 1) s1) (own_lrI hS3 (by omega)) (own_lrX hS3 (by omega)) (fun _ _ h => cell_row h.2.2.2.1 0) ?h0 ?hround ?hdone ?hstop
  case h0 =>
    exact ⟨N2.out.below ((Below.refl _ w2).alloc (Nat.le_refl _) _), T2.out.alloc _, obj_alloc BX.out _, World.alloc_heap_new w2 _, fun j hj => by cases hj⟩
  case hround =>
    rintro L pre x post W hxs hlL hlW ⟨hN, hT, hb, hbs, hall⟩
    obtain ⟨rfl, hle⟩ := instL_mid hxs
    clear hxs
    unfold encI
    have hq1 : (s1.len + 1 + pre.length : Nat) ≤ 10000 := hle
    obtain ⟨q, hqd⟩ : ∃ q, q = s1.len + 1 + pre.length := ⟨_, rfl⟩
    rw [← hqd] at hle ⊢
    have HQ := Lib.hid hqd
    clear hqd hq1
    gi_wp2
    refine ⟨KeepsFrom.refl _ _, ⟨hN, hT, hb, hbs, hall⟩, ?_⟩
    clear hN hT hb hbs hall
    rintro W2 hg hsz ⟨hN, hT, hb, hbs, hall⟩
    obtain ⟨bq, d1, d2, f2, k1, k2⟩ := known_look hN (i := (q : Int)) (by omega)
    clear k2
    have q0 := cell_row hb 0
    simp only [List.getElem?_toArray, List.getElem?_cons_zero] at q0
    have HSZ := Lib.hid hsz
    clear hsz
    dsimp only at k1
    have HN := Lib.hid hN
    have HT := Lib.hid hT
    have HB := Lib.hid hb
    have HBS := Lib.hid hbs
    have HA := Lib.hid hall
    clear hN hT hb hbs hall
    cases hkq : s1.known (q : Int) with
    | none =>
      rw [hkq] at k1
      dsimp only [Option.getD_none, Option.isSome_none] at k1
      gi_wp2
      have ba := (Below.refl _ W2).alloc (Nat.le_refl _) (.cells #[.string ⟨#[]⟩] 66)
      exact ⟨keeps_below ba, rfl, pre.length, by simp, HN.out.below ba, HT.out.alloc _, HA.out, by rw [← HQ.out]; exact hkq⟩
    | some y =>
      rw [hkq] at k1
      dsimp only [Option.getD_some, Option.isSome_some] at k1
      have ba := (Below.refl _ W2).alloc (Nat.le_refl _) (.cells #[.string y] 66)
      have q1 := cell_row (obj_alloc HB.out (.cells #[.string y] 66)) 0
      simp only [List.getElem?_toArray, List.getElem?_cons_zero] at q1
      obtain ⟨bq', d1', d2', f2', k1', k2'⟩ := known_look (HN.out.below ba) (i := (q : Int)) (by omega)
      clear d1' k1' k2'
      have BA := Lib.hid ba
      clear ba
      have HE := Lib.hid (show s1.len + (pre ++ [q]).length = q by rw [List.length_append, List.length_singleton, HQ.out]; omega)
      gi_wp2
      refine ⟨(keeps_below BA.out).trans (keeps_set _ ⟨g, 2, none⟩ _), ?_, ?_, ?_, ?_, ?_⟩
      · rw [HE.out]
        exact (HN.out.below BA.out).setLen q
      · exact (HT.out.alloc _).set_ (p := ⟨g, 2, none⟩) (.inl hSg) _
      · exact obj_far (obj_alloc HB.out _) (p := ⟨g, 2, none⟩) (show w.heap.size ≠ g by omega) _
      · exact obj_far (obj_alloc HBS.out _) (p := ⟨g, 2, none⟩) (show w2.heap.size ≠ g by omega) _
      · intro j hj
        rw [List.length_append, List.length_singleton] at hj
        by_cases e : j < pre.length
        · exact HA.out j e
        · obtain rfl : j = pre.length := by omega
          rw [← HQ.out, hkq]; rfl
  case hdone =>
    rintro D W hD ⟨hN, hT, hb, hbs, hall⟩ hK
    rw [instL_len] at hN hall
    rw [HF.out _ (Nat.le_refl _) hall (.inl rfl), HL1.out] at hN
    clear hall hb hbs HF
    have HN := Lib.hid hN
    have HT := Lib.hid hT
    have HK := Lib.hid hK
    clear hN hT hK
    go_wp2_with (go_at_call 25; refine (HR.out _).mono ?_; rintro e w5 ⟨rfl, b5⟩; have B5 := Lib.hid (below1 b5); clear b5)
    rw [Exit.noGoto_ret]
    refine leaves_mark2 rfl (obj_below HK.out B5.out (obj_lt HK.out)) ?_
    exact ⟨rfl, (HN.out.below B5.out).put (fun e => by have := hS3 D e; omega), turn_put (HT.out.belowR B5.out) (by omega)⟩
  case hstop =>
    rintro D co pre W hD hp ⟨rfl, m, hm, hN, hT, hall, hno⟩ hK
    have hpl := hp.length_le
    rw [instL_len] at hpl
    rw [HF.out m (by omega) hall (.inr hno), HL1.out] at hN
    clear hall HF hno
    have HN := Lib.hid hN
    have HT := Lib.hid hT
    have HK := Lib.hid hK
    clear hN hT hK
    go_wp2_with (go_at_call 25; refine (HR.out _).mono ?_; rintro e w5 ⟨rfl, b5⟩; have B5 := Lib.hid (below1 b5); clear b5)
    rw [Exit.noGoto_ret]
    refine leaves_mark2 rfl (obj_below HK.out B5.out (obj_lt HK.out)) ?_
    exact ⟨rfl, (HN.out.below B5.out).put (fun e => by have := hS3 D e; omega), turn_put (HT.out.belowR B5.out) (by omega)⟩
end Go.Proofs.Ytlboeaapmfpipaa
