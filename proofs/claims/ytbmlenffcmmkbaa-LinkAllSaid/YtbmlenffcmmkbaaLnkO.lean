/-
  The laws of link: two ends beside what was sent, what came, what is on its way. Conditions: numbers are as the program's types allow.
-/
import Derived.Test.YtbmlenffcmmkbaaLnkN
namespace Ros
open Go Go.RowKit
theorem Row.apart {w : World} {e e' : TypeId} {size size' n n' : Nat} {v v' : Value} {xs xs' : List Value} (h : Row w e size v n xs) (h' : Row w e' size' v' n' xs') (hne : e ≠ e') : ∀ k, v.ownBlock = some k → v'.ownBlock ≠ some k := by
  intro k hk
  rcases h.2 with ⟨rfl, _⟩ | ⟨g, cap, cur, rfl, hg, _⟩
  · simp [Value.ownBlock] at hk
  · have hk' : g = k := by simpa [Value.ownBlock] using hk
    subst hk'
    exact h'.ne_ hg (Ne.symm hne)
theorem frL_length (x : Fr) : (frL x).length = 9 := rfl
theorem frL_one (l : List Fr) : ∀ u ∈ l.flatMap frL, u.oneCell' = true := by
  intro u hu
  obtain ⟨x, _, hx⟩ := List.mem_flatMap.1 hu
  simp [frL] at hx
  rcases hx with rfl | rfl | rfl | rfl | rfl | rfl | rfl | rfl | rfl <;> rfl
theorem str_one (l : List ByteArray) : ∀ u ∈ l.map Value.string, u.oneCell' = true := by
  intro u hu
  obtain ⟨x, _, rfl⟩ := List.mem_map.1 hu
  rfl
theorem Row.srcL {P : Program} {w : World} {e : TypeId} {size n c : Nat} {A : Option Addr} {xs : List Value} {tx e' : TypeId} (hk : P.underlying tx = some (.slice e')) (h : Row w e size (.slice A n c) n xs)
    (h1 : ∀ u ∈ xs, u.oneCell' = true) : Src P size tx (.slice A n c) n xs w := by
  have h2 := h.src_from hk (Nat.zero_le n) h1
  rw [Nat.zero_mul, List.drop_zero, Nat.sub_zero, Nat.sub_zero] at h2
  have e : (if c = 0 then A else A.map (·.add 0)) = A := by
    split
    · rfl
    · cases A <;> simp [Addr.add]
  rw [e] at h2
  exact h2
theorem Row.src_head {P : Program} {w : World} {e : TypeId} {size n c k : Nat} {A : Option Addr} {xs : List Value} {tx e' : TypeId} (hk : P.underlying tx = some (.slice e')) (h : Row w e size (.slice A n c) n xs) (hkn : k ≤ n)
    (h1 : ∀ u ∈ xs, u.oneCell' = true) : Src P size tx (.slice A k c) k (xs.take (k * size)) w := by
  have h1' : ∀ u ∈ xs.take (k * size), u.oneCell' = true := fun u hu => h1 u (List.mem_of_mem_take hu)
  have hl : (xs.take (k * size)).length = k * size := by rw [List.length_take, h.1]; exact Nat.min_eq_left (Nat.mul_le_mul_right _ hkn)
  have hc := h.cells
  rcases h.2 with ⟨hv, rfl⟩ | ⟨g, cap, cur, hv, hg, hh1, hh2, hh3, hh4⟩
  · cases hv
    obtain rfl : k = 0 := by omega
    simpa using Src.ofNil w hk 0
  · cases hv
    refine Src.ofSlice w hk _ k c _ hl (fun j u hu => ?_) h1'
    rw [List.getElem?_take] at hu
    split at hu
    · exact hc _ ⟨c, rfl⟩ _ _ hu
    · cases hu
theorem row_made {w : World} {e : TypeId} {size L g : Nat} {Z : Array Value} (h : w.heap[g]? = some (.cells Z e (0, 0))) (hZ : L * size ≤ Z.size) (hm : L ≤ maxLen) : Row w e size (.slice (some ⟨g, 0, none⟩) 0 L) 0 [] :=
  ⟨by simp, .inr ⟨g, L, Z, rfl, h, Nat.zero_le _, hm, hZ, by simp⟩⟩
theorem fr_at {w : World} {A : Option Addr} {l : List Fr} (h : ArgAt w 9 A l.length (l.flatMap frL)) (k : Nat) (hk : k < l.length) :
    ∃ a : Addr, A = some a ∧ w.cell? (a.add (k * 9)) = some (.int .i64 l[k].wire) ∧ w.cell? ⟨(a.add (k * 9)).block, (a.add (k * 9)).off + 1, none⟩ = some (.int .i64 l[k].kind) ∧ w.cell? ⟨(a.add (k * 9)).block, (a.add (k * 9)).off + 2, none⟩ = some (.int .i64 l[k].src) ∧ w.cell? ⟨(a.add (k * 9)).block, (a.add (k * 9)).off + 3, none⟩ = some (.int .i64 l[k].dst) ∧ w.cell? ⟨(a.add (k * 9)).block, (a.add (k * 9)).off + 4, none⟩ = some (.int .u32 (l[k].life : Int)) ∧ w.cell? ⟨(a.add (k * 9)).block, (a.add (k * 9)).off + 5, none⟩ = some (.int .u32 (l[k].seq : Int)) ∧ w.cell? ⟨(a.add (k * 9)).block, (a.add (k * 9)).off + 6, none⟩ = some (.int .u32 (l[k].ack : Int)) ∧ w.cell? ⟨(a.add (k * 9)).block, (a.add (k * 9)).off + 7, none⟩ = some (.int .u32 (l[k].hint : Int)) ∧ w.cell? ⟨(a.add (k * 9)).block, (a.add (k * 9)).off + 8, none⟩ = some (.string l[k].data) := by
  obtain ⟨a, hl, e, hb, hc⟩ := h.at_ frL_length (by omega) k hk
  refine ⟨a, e, ?_, add_pos' _ 1 (by omega) ▸ hc 1 _ (by omega) rfl, add_pos' _ 2 (by omega) ▸ hc 2 _ (by omega) rfl, add_pos' _ 3 (by omega) ▸ hc 3 _ (by omega) rfl, add_pos' _ 4 (by omega) ▸ hc 4 _ (by omega) rfl, add_pos' _ 5 (by omega) ▸ hc 5 _ (by omega) rfl, add_pos' _ 6 (by omega) ▸ hc 6 _ (by omega) rfl, add_pos' _ 7 (by omega) ▸ hc 7 _ (by omega) rfl, add_pos' _ 8 (by omega) ▸ hc 8 _ (by omega) rfl⟩
  have := hc 0 _ (by omega) rfl
  simpa [Addr.add] using this
theorem lost_keep {W W3 : World} {o : Obj} {e : TypeId} {size n a b : Nat} {v : Value} {xs : List Value} (h : Row W e size v n xs) (g : (W.drew.alloc o).grownBy W3 (Value.slice (some ⟨W.heap.size, 0, none⟩) a b).ownBlock) : Row W3 e size v n xs :=
  h.keep fun k hk => (g.block k (by have := h.lt hk; rw [World.size_alloc]; exact Nat.lt_succ_of_lt this) (fun e => by have h1 := h.lt hk; have e' : some k = some W.heap.size := e; injection e' with e'; omega)).trans (Below.heap_alloc W.drew _ k (h.lt hk))
theorem lost_end {W w3 w4 : World} {o : Obj} {a b : Nat} {v3 v4 : Value} (g3 : (W.drew.alloc o).grownBy w3 (Value.slice (some ⟨W.heap.size, 0, none⟩) a b).ownBlock) (a3 : v3.ownBlock = (Value.slice (some ⟨W.heap.size, 0, none⟩) a b).ownBlock ∨ v3.ownBlock = some (W.drew.alloc o).heap.size)
    (g4 : w3.grownBy w4 v3.ownBlock) (a4 : v4.ownBlock = v3.ownBlock ∨ v4.ownBlock = some w3.heap.size) : Below W.heap.size W w4 ∧ ∀ k, v4.ownBlock = some k → W.heap.size ≤ k := by
  have hz : (W.drew.alloc o).heap.size = W.heap.size + 1 := by rw [World.size_alloc]; rfl
  have hb0 : Below W.heap.size W (W.drew.alloc o) := (Below.refl _ W).drew.alloc (Nat.le_refl _) _
  have h3 : ∀ k, v3.ownBlock = some k → W.heap.size ≤ k := fun k hk => by
    rcases a3 with e | e
    · rw [e] at hk
      have hk' : some W.heap.size = some k := hk
      injection hk' with hk'
      omega
    · rw [e] at hk
      injection hk with hk
      omega
  have hb3 := hb0.grown g3 hb0.size fun k hk => by
    have hk' : some W.heap.size = some k := hk
    injection hk' with hk'
    omega
  refine ⟨hb3.grown g4 hb3.size h3, fun k hk => ?_⟩
  rcases a4 with e | e
  · exact h3 k (e ▸ hk)
  · rw [e] at hk
    injection hk with hk
    have := hb3.size
    omega
theorem at_of (p : Int) (L : Nat) (h0 : 0 < L) (hL : L ≤ 263) : ∃ i : Nat, wrap64 ((IntKind.u64.wrap p).tmod (L : Int)) = (i : Int) ∧ i < L := by
  have h : IntKind.u64.wrap p = p % 18446744073709551616 := by rw [IntKind.wrap_u64]
  have h1 : 0 ≤ IntKind.u64.wrap p := by rw [h]; omega
  rw [Int.tmod_eq_emod_of_nonneg h1]
  have h2 := Int.emod_nonneg (IntKind.u64.wrap p) (show (L : Int) ≠ 0 by omega)
  have h3 := Int.emod_lt_of_pos (IntKind.u64.wrap p) (show (0 : Int) < (L : Int) by omega)
  refine ⟨(IntKind.u64.wrap p % (L : Int)).toNat, ?_, by omega⟩
  unfold wrap64
  omega
theorem results_tmp5 {fn : Func} {a b c d e : Tmp} (h : fn.results = #[.tmp a, .tmp b, .tmp c, .tmp d, .tmp e]) (tmps : Array Value) (P : Program) (w : World) :
    (results fn tmps).run P w = .ok (.tuple #[tmps.getD a undef, tmps.getD b undef, tmps.getD c undef, tmps.getD d undef, tmps.getD e undef]) w := by
  simp [results, h]
end Ros
namespace Go.Proofs.Ytbmlenffcmmkbaa
open Go.RowKit Go.Shelf Ros Go.Maps
attribute [local go_sem] Oper.semAt_some
set_option linter.unusedVariables false
/-- Two ends in memory, what was sent, what came, what is on its way. -/
structure En (w0 W : World) (S : Nat → Prop) (g : Nat) (T : Nat → Prop) (h : Nat) (s t : Lk) (vs : Value) (ls : List ByteArray) (vc : Value) (lc : List ByteArray) (vw : Value) (lw : List Fr) : Prop where
  two : Two w0 W S g s T h t
  rs : By2 w0 W S T 9 1 vs ls.length (ls.map .string)
  rc : By2 w0 W S T 9 1 vc lc.length (lc.map .string)
  rw : By2 w0 W S T 37 9 vw lw.length (lw.flatMap frL)
  dis : ∀ k, vs.ownBlock = some k → vc.ownBlock ≠ some k
section
variable {w0 W W' : World} {S T : Nat → Prop} {g h : Nat} {s s' t t' : Lk} {vs vc vw v' : Value} {ls lc ls' lc' : List ByteArray} {lw lw' : List Fr}
theorem En.turnA (E : En w0 W S g T h s t vs ls vc lc vw lw) (hf : LkA W' S g s') (ht : Turn S S W W') : En w0 W' S g T h s' t vs ls vc lc vw lw :=
  ⟨E.two.turn hf ht, E.rs.turn ht, E.rc.turn ht, E.rw.turn ht, E.dis⟩
theorem En.turnB (E : En w0 W S g T h s t vs ls vc lc vw lw) (hf : LkA W' T h t') (ht : Turn T T W W') : En w0 W' S g T h s t' vs ls vc lc vw lw :=
  ⟨(E.two.symm.turn hf ht).symm, (E.rs.symm.turn ht).symm, (E.rc.symm.turn ht).symm, (E.rw.symm.turn ht).symm, E.dis⟩
theorem En.below (E : En w0 W S g T h s t vs ls vc lc vw lw) (hb : Below W.heap.size W W') : En w0 W' S g T h s t vs ls vc lc vw lw :=
  ⟨E.two.below hb, E.rs.below hb, E.rc.below hb, E.rw.below hb, E.dis⟩
theorem En.alloc (E : En w0 W S g T h s t vs ls vc lc vw lw) (o : Obj) : En w0 (W.alloc o) S g T h s t vs ls vc lc vw lw := E.below ((Below.refl _ _).alloc (Nat.le_refl _) o)
theorem En.drew (E : En w0 W S g T h s t vs ls vc lc vw lw) : En w0 W.drew S g T h s t vs ls vc lc vw lw := E.below (Below.refl _ _).drew
theorem En.drewN (E : En w0 W S g T h s t vs ls vc lc vw lw) (n : Nat) : En w0 (W.drewN n) S g T h s t vs ls vc lc vw lw := E.below (below_dN (Below.refl _ _) n)
theorem By2.grown {e : TypeId} {n size : Nat} {v u : Value} {xs : List Value} (H : By2 w0 W S T e size v n xs) (hg : W.grownBy W' u.ownBlock) (hd : ∀ k, u.ownBlock = some k → v.ownBlock ≠ some k) : By2 w0 W' S T e size v n xs :=
  ⟨H.1.keep fun k hk => hg.block k (H.1.lt hk) fun e => hd k e.symm hk, H.2⟩
theorem By2.new {e : TypeId} {n n' size : Nat} {v v' : Value} {xs xs' : List Value} (H : By2 w0 W S T e size v n xs) (D : Two w0 W S g s T h t) (hr : Row W' e size v' n' xs') (ha : v'.ownBlock = v.ownBlock ∨ v'.ownBlock = some W.heap.size) : By2 w0 W' S T e size v' n' xs' := by
  refine ⟨hr, fun k hk => ?_⟩
  rcases ha with e | e
  · exact H.2 k (e ▸ hk)
  · rw [e] at hk
    have hk' : W.heap.size = k := by simpa using hk
    subst hk'
    exact ⟨fun hs => by have := D.1.1.lt _ hs; omega, fun hs => by have := D.2.1.1.lt _ hs; omega, D.from_.size⟩
theorem Two.grown {e : TypeId} {n size : Nat} {v : Value} {xs : List Value} (D : Two w0 W S g s T h t) (H : By2 w0 W S T e size v n xs) (hg : W.grownBy W' v.ownBlock) : Two w0 W' S g s T h t := by
  have hb : Below w0.heap.size w0 W' := D.from_.grown hg D.from_.size fun k hk => (H.2 k hk).2.2
  exact ⟨⟨D.1.1.keep fun k hk => hg.block k (D.1.1.lt k hk) fun e => (H.2 k e.symm).1 hk, hb, D.1.2.2⟩, ⟨D.2.1.1.keep fun k hk => hg.block k (D.2.1.1.lt k hk) fun e => (H.2 k e.symm).2.1 hk, hb, D.2.1.2.2⟩, D.2.2⟩
/-- What is on its way gets more. -/
theorem En.putWay (E : En w0 W S g T h s t vs ls vc lc vw lw) (hr : Row W' 37 9 v' lw'.length (lw'.flatMap frL)) (hg : W.grownBy W' vw.ownBlock) (ha : v'.ownBlock = vw.ownBlock ∨ v'.ownBlock = some W.heap.size) : En w0 W' S g T h s t vs ls vc lc v' lw' :=
  ⟨E.two.grown E.rw hg, E.rs.grown hg (E.rw.1.apart E.rs.1 (by decide)), E.rc.grown hg (E.rw.1.apart E.rc.1 (by decide)), E.rw.new E.two hr ha, E.dis⟩
/-- More was sent. -/
theorem En.putSent (E : En w0 W S g T h s t vs ls vc lc vw lw) (hr : Row W' 9 1 v' ls'.length (ls'.map .string)) (hg : W.grownBy W' vs.ownBlock) (ha : v'.ownBlock = vs.ownBlock ∨ v'.ownBlock = some W.heap.size) : En w0 W' S g T h s t v' ls' vc lc vw lw :=
  ⟨E.two.grown E.rs hg, E.rs.new E.two hr ha, E.rc.grown hg E.dis, E.rw.grown hg (E.rs.1.apart E.rw.1 (by decide)), fun k hk => by
    rcases ha with e | e
    · exact E.dis k (e ▸ hk)
    · rw [e] at hk
      have hk' : W.heap.size = k := by simpa using hk
      subst hk'
      intro hc
      exact Nat.lt_irrefl _ (E.rc.1.lt hc)⟩
/-- More came. -/
theorem En.putCame (E : En w0 W S g T h s t vs ls vc lc vw lw) (hr : Row W' 9 1 v' lc'.length (lc'.map .string)) (hg : W.grownBy W' vc.ownBlock) (ha : v'.ownBlock = vc.ownBlock ∨ v'.ownBlock = some W.heap.size) : En w0 W' S g T h s t vs ls v' lc' vw lw :=
  ⟨E.two.grown E.rc hg, E.rs.grown hg (fun k hk hs => E.dis k hs hk), E.rc.new E.two hr ha, E.rw.grown hg (E.rc.1.apart E.rw.1 (by decide)), fun k hk hc => by
    rcases ha with e | e
    · exact E.dis k hk (e ▸ hc)
    · rw [e] at hc
      have hk' : W.heap.size = k := by simpa using hc
      subst hk'
      exact Nat.lt_irrefl _ (E.rs.1.lt hk)⟩
/-- What is on its way is another slice, of the call's own. -/
theorem En.newWay (E : En w0 W S g T h s t vs ls vc lc vw lw) (hr : By2 w0 W S T 37 9 v' lw'.length (lw'.flatMap frL)) : En w0 W S g T h s t vs ls vc lc v' lw' := ⟨E.two, E.rs, E.rc, hr, E.dis⟩
end
theorem strL_info : (Try.prog.info? 9).map (fun i => (i.zero, i.size, i.bytes)) = some (some (.string ⟨#[]⟩), 1, 16) := by kernel_rfl
section
variable {w0 W W' : World} {S T : Nat → Prop} {g h : Nat} {s s' t t' : Lk} {vs vc vw v' : Value} {ls lc ls' lc' : List ByteArray} {lw lw' : List Fr}
theorem En.lost_ (E : En w0 W S g T h s t vs ls vc lc vw lw) (hb : Below W.heap.size W W') (hr : Row W' 37 9 v' lw'.length (lw'.flatMap frL)) (hf : ∀ k, v'.ownBlock = some k → W.heap.size ≤ k) : En w0 W' S g T h s t vs ls vc lc v' lw' :=
  (E.below hb).newWay (.fresh E.two hr hf)
theorem En.send (E : En w0 W S g T h s t vs ls vc lc vw lw) (d : ByteArray) (hd : d.size ≤ 140737488355328) (hok : s.next < 4294967296) (hl : s.outs.length ≤ 1000) :
    Calls Try.prog 14 #[.pointer (some ⟨g, 0, none⟩), .string d] W fun e W' => e = .returned (.int .i64 (lsend s d).1) ∧ En w0 W' S g T h (lsend s d).2 t vs ls vc lc vw lw ∧ Turn S S W W' :=
  (lsend_any d hd W S g s E.two.1.1 hok hl).mono fun _ _ ⟨he, hf, ht⟩ => ⟨he, E.turnA hf ht, ht⟩
theorem En.goOut (E : En w0 W S g T h s t vs ls vc lc vw lw) (hn : s.next < 4294967296) (hw : s.waits < 4294967296) (hl : s.outs.length ≤ 64) :
    Calls Try.prog 11 #[.pointer (some ⟨g, 0, none⟩)] W fun e W' => ∃ A cap, e = .returned (.slice A s.outs.length cap) ∧ By2 w0 W' S T 37 9 (.slice A s.outs.length cap) s.outs.length ((framesN s s.outs.length).flatMap frL) ∧ En w0 W' S g T h s t vs ls vc lc vw lw ∧ Below W.heap.size W W' :=
  (out_any W S g s E.two.1.1 hn hw hl).mono fun _ _ ⟨A, cap, he, hr, hb, hf⟩ => ⟨A, cap, he, .fresh E.two hr hf, E.below hb, hb⟩
theorem En.data (E : En w0 W S g T h s t vs ls vc lc vw lw) (f : Fr) (hf1 : f.src = t.peer) (hf2 : f.dst = t.self) (hf3 : f.kind = 1) (hw : t.waits < 4294967296) {d : List ByteArray} {y : Fr} {t' : Lk} (hr : lrecv t f.life f.seq f.data = (d, [y], t')) :
    Calls Try.prog 12 #[.pointer (some ⟨h, 0, none⟩), frV f] W fun e W' => ∃ A c B k, e = .returned (.tuple #[.slice A d.length c, .slice B 1 k, .int .i64 0]) ∧
      By2 w0 W' S T 9 1 (.slice A d.length c) d.length (d.map .string) ∧ By2 w0 W' S T 37 9 (.slice B 1 k) 1 (frL y) ∧ (∀ k, (Value.slice A d.length c).ownBlock = some k → W.heap.size ≤ k) ∧ En w0 W' S g T h s t' vs ls vc lc vw lw ∧ Turn T T W W' := by
  have c := recv_data f W T h t E.two.2.1.1 hf1 hf2 hf3 hw
  rw [hr] at c
  refine c.mono fun _ W' ⟨sv, av, he, hL, ht, r1, r2, k1, k2⟩ => ?_
  obtain ⟨A, c, rfl, _, _⟩ := r1.form
  obtain ⟨B, k, rfl, _, _⟩ := r2.form
  exact ⟨A, c, B, k, he, .fresh E.two r1 k1, .fresh E.two (by simpa using r2) k2, k1, E.turnB hL ht, ht⟩
theorem En.ack (E : En w0 W S g T h s t vs ls vc lc vw lw) (f : Fr) (hf1 : f.src = s.peer) (hf2 : f.dst = s.self) (hf3 : f.kind = 2) (hn : s.next < 4294967296) {s' : Lk} (hr : lack s f.life f.ack = s') :
    Calls Try.prog 12 #[.pointer (some ⟨g, 0, none⟩), frV f] W fun e W' => e = .returned (.tuple #[.slice none 0 0, .slice none 0 0, .int .i64 0]) ∧ En w0 W' S g T h s' t vs ls vc lc vw lw ∧ Turn S S W W' := by
  subst hr
  exact (recv_ack f W S g s E.two.1.1 hf1 hf2 hf3 hn).mono fun _ _ ⟨he, hf, ht⟩ => ⟨he, E.turnA hf ht, ht⟩
end
theorem make_way (L : Nat) (hL : L ≤ 263) : ∃ Z : Array Value, L * 9 ≤ Z.size ∧ ∀ W : World, (Instr.makeSlice 30 (.int .i64 0) (.int .i64 (L : Int))).run Try.prog W = .ok (.slice (some ⟨W.heap.size, 0, none⟩) 0 L) (W.alloc (.cells Z 37)) := by
  obtain ⟨i0, hi0, hz0, hz1, hz2⟩ := info_parts frame_info
  refine ⟨madeCells (Value.agg #[.int .i64 0, .int .i64 0, .int .i64 0, .int .i64 0, .int .u32 0, .int .u32 0, .int .u32 0, .int .u32 0, .string ⟨#[]⟩]).cells ((L : Int).toNat * i0.size), ?_, fun W => ?_⟩
  · rw [size_madeCells, hz1]
    omega
  · exact run_make (P := Try.prog) W 30 37 i0 _ Try.underlying30 hi0 hz0 .i64 .i64 0 (L : Int) (Int.le_refl _) (by omega) (by rw [hz2]; omega) (by omega)
end Go.Proofs.Ytbmlenffcmmkbaa
