/-
  The laws of link: two ends, a script; what its steps leave. Conditions: numbers are as the program's types allow.
-/
import Derived.Test.YtbmlenffcmmkbaaLnkM
namespace Ros
open Go Go.RowKit
/-- A text's first hundred bytes. -/
@[irreducible] def cutL (s : ByteArray) : ByteArray := s.extract 0 (min s.size 100)
theorem cutL_size (s : ByteArray) : (cutL s).size ≤ 100 := by
  unfold cutL
  rw [ByteArray.size_extract]
  omega
theorem cutL_big {s : ByteArray} (h : 100 < s.size) : cutL s = s.extract 0 100 := by unfold cutL; rw [Nat.min_eq_right (by omega)]
theorem cutL_small {s : ByteArray} (h : s.size ≤ 100) : cutL s = s := by
  unfold cutL
  rw [Nat.min_eq_left h]
  apply bl_inj; rw [bl_extract0, size_bl, List.take_length]
/-- A step. -/
structure Sp where
  d : Int
  p : Int
  s : ByteArray
def cellsSp (x : Sp) : List Value := [.int .i64 x.d, .int .i64 x.p, .string x.s]
theorem cellsSp_length (x : Sp) : (cellsSp x).length = 3 := rfl
def okSp (x : Sp) : Prop := (-9223372036854775808 ≤ x.d ∧ x.d ≤ 9223372036854775807) ∧ (-9223372036854775808 ≤ x.p ∧ x.p ≤ 9223372036854775807) ∧ x.s.size ≤ maxLen
def cellsSps (l : List Sp) : List Value := l.flatMap cellsSp
theorem sp_at {w : World} {A : Option Addr} {l : List Sp} (h : ArgAt w 3 A l.length (cellsSps l)) (k : Nat) (hk : k < l.length) :
    ∃ a : Addr, A = some a ∧ w.cell? (a.add (k * 3)) = some (.int .i64 l[k].d) ∧ w.cell? ⟨(a.add (k * 3)).block, (a.add (k * 3)).off + 1, none⟩ = some (.int .i64 l[k].p) ∧ w.cell? ⟨(a.add (k * 3)).block, (a.add (k * 3)).off + 2, none⟩ = some (.string l[k].s) := by
  obtain ⟨a, hl, e, hb, hc⟩ := h.at_ cellsSp_length (by omega) k hk
  refine ⟨a, e, ?_, add_pos' _ 1 (by omega) ▸ hc 1 _ (by omega) rfl, add_pos' _ 2 (by omega) ▸ hc 2 _ (by omega) rfl⟩
  have := hc 0 _ (by omega) rfl
  simpa [Addr.add] using this
theorem do6 (d : Int) : (IntKind.u64.wrap d).tmod 6 = 0 ∨ (IntKind.u64.wrap d).tmod 6 = 1 ∨ (IntKind.u64.wrap d).tmod 6 = 2 ∨ (IntKind.u64.wrap d).tmod 6 = 3 ∨ (IntKind.u64.wrap d).tmod 6 = 4 ∨ (IntKind.u64.wrap d).tmod 6 = 5 := by
  have h : IntKind.u64.wrap d = d % 18446744073709551616 := by rw [IntKind.wrap_u64]
  have h0 : 0 ≤ IntKind.u64.wrap d := by rw [h]; omega
  rw [Int.tmod_eq_emod_of_nonneg h0]
  omega
theorem had_of (s : Lk) (n : Nat) (h : s.waits = n + 1) (hn : n < 4294967295) : s.had = n := by
  unfold Lk.had
  rw [h]; omega
/-- What both ends have behind some steps. -/
structure Ec where
  sent : List ByteArray
  came : List ByteArray
  f : Nat
  p : Nat
  way : List Fr
def Ec.a (win : Int) (c : Ec) : Lk := ⟨3, c.f, c.sent.drop (c.f - 1), 0, 1, 1, 2, 2, win⟩
def Ec.b (win : Int) (c : Ec) : Lk := ⟨4, 1, [], c.p, c.came.length + 1, 2, 1, 2, win⟩
/-- A frame on its way. -/
def wayOk (c : Ec) (x : Fr) : Prop :=
  (x.dst = 2 ∧ x.src = 1 ∧ x.kind = 1 ∧ x.life = 3 ∧ 1 ≤ x.seq ∧ c.sent[x.seq - 1]? = some x.data) ∨ (x.dst = 1 ∧ x.src = 2 ∧ x.kind = 2 ∧ x.life = 3 ∧ x.ack ≤ c.came.length)
structure Ei (win : Int) (k : Nat) (c : Ec) : Prop where
  win1 : 1 ≤ win
  win64 : win ≤ 64
  sent : c.sent.length ≤ k
  le : c.came.length ≤ c.sent.length
  pre : c.came = c.sent.take c.came.length
  f1 : 1 ≤ c.f
  f2 : c.f ≤ c.came.length + 1
  out : ((c.sent.length + 1 - c.f : Nat) : Int) ≤ win
  p : c.p = 3 ∨ (c.p = 0 ∧ c.came = [])
  way : ∀ x ∈ c.way, wayOk c x
  len : c.way.length ≤ 263
theorem Ei.start (win : Int) (h1 : 1 ≤ win) (h2 : win ≤ 64) : Ei win 0 ⟨[], [], 1, 0, []⟩ :=
  ⟨h1, h2, Nat.le_refl _, Nat.le_refl _, rfl, Nat.le_refl _, Nat.le_refl _, by show ((0 : Nat) : Int) ≤ win; omega, .inr ⟨rfl, rfl⟩, fun x hx => by simp at hx, Nat.zero_le _⟩
section
variable {win : Int} {k : Nat} {c : Ec}
theorem Ei.more (h : Ei win k c) : Ei win (k + 1) c := ⟨h.win1, h.win64, by have := h.sent; omega, h.le, h.pre, h.f1, h.f2, h.out, h.p, h.way, h.len⟩
theorem Ei.mono (h : Ei win k c) {m : Nat} (hm : k ≤ m) : Ei win m c := ⟨h.win1, h.win64, Nat.le_trans h.sent hm, h.le, h.pre, h.f1, h.f2, h.out, h.p, h.way, h.len⟩
theorem Ei.at_ (h : Ei win k c) {m : Nat} (hm : c.sent.length ≤ m) : Ei win m c := ⟨h.win1, h.win64, hm, h.le, h.pre, h.f1, h.f2, h.out, h.p, h.way, h.len⟩
theorem Ei.outs (h : Ei win k c) : (c.a win).outs.length = c.sent.length + 1 - c.f := by
  have := h.f1
  have := h.f2
  have := h.le
  show (c.sent.drop (c.f - 1)).length = _
  rw [List.length_drop]; omega
theorem Ei.outs64 (h : Ei win k c) : (c.a win).outs.length ≤ 64 := by
  have := h.outs
  have := h.out
  have := h.win64
  omega
theorem Ei.next (h : Ei win k c) : (c.a win).next = c.sent.length + 1 := by
  have := h.outs
  have := h.f2
  have := h.le
  show c.f + (c.a win).outs.length = _
  omega
/-- Send. -/
theorem Ei.send_full (d : ByteArray) (hd : d.size ≤ 100) (hf : win ≤ ((c.a win).outs.length : Int)) : lsend (c.a win) d = (30, c.a win) := by
  unfold lsend
  rw [if_pos (by omega), if_pos (.inl hf)]
theorem Ei.send_yes (h : Ei win k c) (hk : k < 100) (d : ByteArray) (hd : d.size ≤ 100) (hf : ¬ win ≤ ((c.a win).outs.length : Int)) :
    lsend (c.a win) d = (0, ({ c with sent := c.sent ++ [d] } : Ec).a win) ∧ Ei win (k + 1) { c with sent := c.sent ++ [d] } := by
  have hn := h.next
  have hs := h.sent
  have hf1 := h.f1
  have hf2 := h.f2
  have hle := h.le
  have ho := h.outs
  constructor
  · rw [lsend_yes _ _ (by omega) (by show ((c.a win).outs.length : Int) < win; omega) (by omega)]
    show (_, _) = (_, _)
    congr 1
    unfold Ec.a
    dsimp only
    rw [List.drop_append_of_le_length (by omega)]
  · have hl : (c.sent ++ [d]).length = c.sent.length + 1 := by simp
    refine ⟨h.win1, h.win64, by rw [hl]; omega, by rw [hl]; show c.came.length ≤ _; omega, ?_, hf1, hf2, by rw [hl]; show ((c.sent.length + 1 + 1 - c.f : Nat) : Int) ≤ win; omega, h.p, fun x hx => ?_, h.len⟩
    · show c.came = (c.sent ++ [d]).take c.came.length
      rw [List.take_append_of_le_length hle]
      exact h.pre
    · rcases h.way x hx with ⟨h1, h2, h3, h4, h5, h6⟩ | h1
      · refine .inl ⟨h1, h2, h3, h4, h5, ?_⟩
        show (c.sent ++ [d])[x.seq - 1]? = _
        rw [List.getElem?_append_left (List.getElem?_eq_some_iff.1 h6).1]
        exact h6
      · exact .inr h1
/-- Out. -/
theorem Ei.out_ (h : Ei win k c) (hl : c.way.length < 200) : Ei win (k + 1) { c with way := c.way ++ framesN (c.a win) (c.a win).outs.length } := by
  have h64 := h.outs64
  have ho := h.outs
  have hf1 := h.f1
  have hf2 := h.f2
  refine ⟨h.win1, h.win64, by have := h.sent; show c.sent.length ≤ _; omega, h.le, h.pre, h.f1, h.f2, h.out, h.p, fun x hx => ?_, ?_⟩
  · rcases List.mem_append.1 hx with hx | hx
    · exact h.way x hx
    · obtain ⟨i, hi, rfl⟩ := List.mem_map.1 hx
      rw [List.mem_range] at hi
      refine .inl ⟨rfl, rfl, rfl, rfl, by show 1 ≤ c.f + i; omega, ?_⟩
      show c.sent[c.f + i - 1]? = some ((c.sent.drop (c.f - 1)).getD i ⟨#[]⟩)
      rw [List.getD_eq_getElem?_getD, List.getElem?_drop, show c.f - 1 + i = c.f + i - 1 by omega, List.getElem?_eq_getElem (by omega)]
      rfl
  · show (c.way ++ _).length ≤ 263
    rw [List.length_append]
    unfold framesN
    rw [List.length_map, List.length_range]
    omega
/-- One is lost. -/
theorem Ei.lost (h : Ei win k c) (i : Nat) : Ei win k { c with way := c.way.take i ++ c.way.drop (i + 1) } := by
  refine ⟨h.win1, h.win64, h.sent, h.le, h.pre, h.f1, h.f2, h.out, h.p, fun x hx => ?_, ?_⟩
  · rcases List.mem_append.1 hx with hx | hx
    · exact h.way x (List.mem_of_mem_take hx)
    · exact h.way x (List.mem_of_mem_drop hx)
  · show (c.way.take i ++ c.way.drop (i + 1)).length ≤ 263
    rw [List.length_append, List.length_take, List.length_drop]
    have := h.len
    omega
/-- The answer is on its way. -/
theorem Ei.answer (h : Ei win k c) (y : Fr) (hy : wayOk c y) (hl : c.way.length ≤ 262) : Ei win k { c with way := c.way ++ [y] } :=
  ⟨h.win1, h.win64, h.sent, h.le, h.pre, h.f1, h.f2, h.out, h.p, fun x hx => by
    rcases List.mem_append.1 hx with hx | hx
    · exact h.way x hx
    · rw [List.mem_singleton.1 hx]; exact hy, by
    show (c.way ++ [y]).length ≤ 263
    rw [List.length_append, List.length_singleton]
    omega⟩
/-- One comes twice. -/
theorem Ei.twice (h : Ei win k c) (hl : c.way.length < 200) (x : Fr) (hx : x ∈ c.way) : Ei win (k + 1) { c with way := c.way ++ [x] } := by
  refine ⟨h.win1, h.win64, by have := h.sent; show c.sent.length ≤ _; omega, h.le, h.pre, h.f1, h.f2, h.out, h.p, fun y hy => ?_, ?_⟩
  · rcases List.mem_append.1 hy with hy | hy
    · exact h.way y hy
    · rw [List.mem_singleton.1 hy]; exact h.way x hx
  · show (c.way ++ [x]).length ≤ 263
    rw [List.length_append, List.length_singleton]
    omega
/-- An acknowledgement comes. -/
theorem Ei.ack (h : Ei win k c) (x : Fr) (hx : wayOk c x) (hd : x.dst ≠ 2) : x.src = 2 ∧ x.dst = 1 ∧ x.kind = 2 ∧ lack (c.a win) x.life x.ack = ({ c with f := c.f + (x.ack + 1 - c.f) } : Ec).a win ∧ Ei win (k + 1) { c with f := c.f + (x.ack + 1 - c.f) } := by
  rcases hx with ⟨h1, _⟩ | ⟨h1, h2, h3, h4, h5⟩
  · exact absurd h1 hd
  · have hn := h.next
    have hle := h.le
    have hf1 := h.f1
    have hf2 := h.f2
    refine ⟨h2, h1, h3, ?_, ?_⟩
    · unfold lack
      rw [if_pos ⟨h4, by omega⟩]
      unfold lcut Ec.a
      dsimp only
      rw [List.drop_drop, show c.f - 1 + (x.ack + 1 - c.f) = c.f + (x.ack + 1 - c.f) - 1 by omega]
    · exact ⟨h.win1, h.win64, by have := h.sent; show c.sent.length ≤ _; omega, h.le, h.pre, by show 1 ≤ c.f + _; omega, by show c.f + (x.ack + 1 - c.f) ≤ c.came.length + 1; omega,
        by have := h.out; show ((c.sent.length + 1 - (c.f + (x.ack + 1 - c.f)) : Nat) : Int) ≤ win; omega, h.p, fun y hy => h.way y hy, h.len⟩
/-- Data comes: what is taken, the answer, what is behind it. -/
theorem Ei.data (h : Ei win k c) (hk : k ≤ 1000) (x : Fr) (hx : wayOk c x) (hd : x.dst = 2) :
    x.src = 1 ∧ x.kind = 1 ∧ ∃ (d : List ByteArray) (y : Fr), lrecv (c.b win) x.life x.seq x.data = (d, [y], ({ c with came := c.came ++ d, p := 3 } : Ec).b win) ∧ d.length ≤ 1 ∧ Ei win (k + 1) { c with came := c.came ++ d, p := 3 } ∧ wayOk { c with came := c.came ++ d, p := 3 } y ∧
      y.dst = 1 ∧ y.ack = (c.came ++ d).length ∧ (x.seq = c.came.length + 1 → d = [x.data]) ∧ (x.seq ≠ c.came.length + 1 → d = []) := by
  rcases hx with ⟨h1, h2, h3, h4, h5, h6⟩ | ⟨h1, _⟩
  · refine ⟨h2, h3, ?_⟩
    have hs := h.sent
    have hle := h.le
    have hf2 := h.f2
    have hw : (if (c.b win).peerLife < x.life then 1 else (c.b win).waits) = c.came.length + 1 := by
      show (if c.p < x.life then 1 else c.came.length + 1) = _
      rcases h.p with hp | ⟨hp, hc⟩
      · rw [if_neg (by omega)]
      · rw [if_pos (by omega), hc]; rfl
    have hnl : ¬ x.life < (c.b win).peerLife := by
      show ¬ x.life < c.p
      rcases h.p with hp | ⟨hp, hc⟩ <;> omega
    have hseq : x.seq - 1 < c.sent.length := (List.getElem?_eq_some_iff.1 h6).1
    by_cases hq : x.seq = c.came.length + 1
    · have hlt : c.came.length < c.sent.length := by omega
      have hb : ({ c.b win with peerLife := x.life, waits := (x.seq + 1) % 4294967296 } : Lk) = ({ c with came := c.came ++ [x.data], p := 3 } : Ec).b win := by
        unfold Ec.b
        dsimp only
        rw [List.length_append, List.length_singleton, h4, hq, show (c.came.length + 1 + 1) % 4294967296 = c.came.length + 1 + 1 by omega]
      have hc : lcome (c.b win) x.life x.seq = (true, true, ({ c with came := c.came ++ [x.data], p := 3 } : Ec).b win) := by
        unfold lcome
        rw [if_neg hnl, if_pos (by rw [hw]; omega), hb]
      have hpre : c.came ++ [x.data] = c.sent.take (c.came.length + 1) := by
        rw [List.take_succ_eq_append_getElem hlt, ← h.pre]
        rw [hq, Nat.add_sub_cancel, List.getElem?_eq_getElem hlt] at h6
        injection h6 with h6
        rw [h6]
      have hll : (c.came ++ [x.data]).length = c.came.length + 1 := by simp
      have hack : (lframe (({ c with came := c.came ++ [x.data], p := 3 } : Ec).b win) 2 (({ c with came := c.came ++ [x.data], p := 3 } : Ec).b win).peerLife 0 ⟨#[]⟩).ack = (c.came ++ [x.data]).length := by
        exact had_of _ _ rfl (by omega)
      refine ⟨[x.data], lframe (({ c with came := c.came ++ [x.data], p := 3 } : Ec).b win) 2 (({ c with came := c.came ++ [x.data], p := 3 } : Ec).b win).peerLife 0 ⟨#[]⟩, ?_, Nat.le_refl _, ?_, .inr ⟨rfl, rfl, rfl, rfl, ?_⟩, rfl, hack, fun _ => rfl, fun hn => absurd hq hn⟩
      · unfold lrecv
        rw [hc]
        rfl
      · exact ⟨h.win1, h.win64, by show c.sent.length ≤ _; omega, by show (c.came ++ [x.data]).length ≤ c.sent.length; omega, by show c.came ++ [x.data] = c.sent.take (c.came ++ [x.data]).length; rw [hll]; exact hpre, h.f1, by show c.f ≤ (c.came ++ [x.data]).length + 1; omega, h.out, .inl rfl, fun y hy => by
          rcases h.way y hy with h7 | ⟨h7, h8, h9, h10, h11⟩
          · exact .inl h7
          · exact .inr ⟨h7, h8, h9, h10, by show y.ack ≤ (c.came ++ [x.data]).length; omega⟩, h.len⟩
      · exact Nat.le_of_eq hack
    · have hb : ({ c.b win with peerLife := x.life, waits := if (c.b win).peerLife < x.life then 1 else (c.b win).waits } : Lk) = ({ c with came := c.came ++ [], p := 3 } : Ec).b win := by
        rw [hw]
        unfold Ec.b
        dsimp only
        rw [List.append_nil, h4]
      have hc : lcome (c.b win) x.life x.seq = (true, false, ({ c with came := c.came ++ [], p := 3 } : Ec).b win) := by
        unfold lcome
        rw [if_neg hnl, if_neg (by rw [hw]; omega), hb]
      have hack : (lframe (({ c with came := c.came ++ [], p := 3 } : Ec).b win) 2 (({ c with came := c.came ++ [], p := 3 } : Ec).b win).peerLife 0 ⟨#[]⟩).ack = (c.came ++ []).length := by
        exact had_of _ _ rfl (by rw [List.append_nil]; omega)
      refine ⟨[], lframe (({ c with came := c.came ++ [], p := 3 } : Ec).b win) 2 (({ c with came := c.came ++ [], p := 3 } : Ec).b win).peerLife 0 ⟨#[]⟩, ?_, Nat.zero_le _, ?_, .inr ⟨rfl, rfl, rfl, rfl, ?_⟩, rfl, hack, fun hn => absurd hn hq, fun _ => rfl⟩
      · unfold lrecv
        rw [hc]
        rfl
      · rw [List.append_nil]
        exact ⟨h.win1, h.win64, by show c.sent.length ≤ _; omega, h.le, h.pre, h.f1, h.f2, h.out, .inl rfl, h.way, h.len⟩
      · exact Nat.le_of_eq hack
  · exfalso; omega
end
end Ros
namespace Go.Proofs.Ytbmlenffcmmkbaa
open Go.RowKit Go.Shelf Ros Go.Maps
attribute [local go_sem] Oper.semAt_some
set_option linter.unusedVariables false
theorem ltext_any (s : ByteArray) (w : World) (hs : s.size ≤ maxLen) : Calls Try.prog 16 #[.string s] w fun e w' => e = .returned (.string (cutL s)) ∧ w = w' := by
  unfold maxLen at hs
  go_enter Try.func16, Try.ntmps16
  go_wp2
  · go_ret
    exact ⟨by rw [cutL_big (by omega)]; rfl, rfl⟩
  · go_ret
    exact ⟨by rw [cutL_small (by omega)]; rfl, rfl⟩
end Go.Proofs.Ytbmlenffcmmkbaa
