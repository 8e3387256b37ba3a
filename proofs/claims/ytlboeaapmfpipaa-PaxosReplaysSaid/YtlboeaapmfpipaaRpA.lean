/-
  A node replays a record: refused, gone, learned; votes compared. Conditions: strings are at most as long as Go allows.
-/
import Derived.Test.YtlboeaapmfpipaaRdB
import Derived.Test.YtlboeaapmfpipaaRdA
import Derived.BigRegion
namespace Ros
open Go Go.RowKit
def raiseV (v : Vt) (t : Ros.Told) : Vt := if t.kind = 118 ∧ v.b ≤ t.number then ⟨max v.p t.number, t.number, t.value⟩ else ⟨max v.p t.number, v.b, v.s⟩
def nreplay (s : Nd) (r : ByteArray) : Int × Nd :=
  match nread r with
  | none => (2, s)
  | some t =>
    if t.kind = 100 then ((nlearn s t.inst t.value).1.2, (nlearn s t.inst t.value).2)
    else if t.inst ≤ s.gone then (0, s)
    else if raiseV (s.vote t.inst) t = s.vote t.inst then (0, s)
    else (0, { s with votes := updI s.votes t.inst (raiseV (s.vote t.inst) t) })
theorem nreplay_none {s : Nd} {r : ByteArray} (h : nread r = none) : nreplay s r = (2, s) := by unfold nreplay; rw [h]
theorem nreplay_dec {s : Nd} {r : ByteArray} {t : Told} (h : nread r = some t) (hk : t.kind = 100) : nreplay s r = ((nlearn s t.inst t.value).1.2, (nlearn s t.inst t.value).2) := by unfold nreplay; rw [h]; exact if_pos hk
theorem nreplay_gone {s : Nd} {r : ByteArray} {t : Told} (h : nread r = some t) (hk : ¬ t.kind = 100) (hg : t.inst ≤ s.gone) : nreplay s r = (0, s) := by unfold nreplay; rw [h]; exact (if_neg hk).trans (if_pos hg)
theorem nreplay_same {s : Nd} {r : ByteArray} {t : Told} (h : nread r = some t) (hk : ¬ t.kind = 100) (hg : ¬ t.inst ≤ s.gone) (hs : raiseV (s.vote t.inst) t = s.vote t.inst) : nreplay s r = (0, s) := by
  unfold nreplay; rw [h]; exact (if_neg hk).trans ((if_neg hg).trans (if_pos hs))
theorem nreplay_vote {s : Nd} {r : ByteArray} {t : Told} (h : nread r = some t) (hk : ¬ t.kind = 100) (hg : ¬ t.inst ≤ s.gone) (hs : ¬ raiseV (s.vote t.inst) t = s.vote t.inst) : nreplay s r = (0, { s with votes := updI s.votes t.inst (raiseV (s.vote t.inst) t) }) := by
  unfold nreplay; rw [h]; exact (if_neg hk).trans ((if_neg hg).trans (if_neg hs))
theorem nread_ok {r : ByteArray} {t : Told} (h : nread r = some t) : (1 ≤ t.inst ∧ t.inst ≤ 10000) ∧ t.value.size ≤ 4000 ∧ (t.kind = 100 ∨ ((t.kind = 112 ∨ t.kind = 118) ∧ 1 ≤ t.number ∧ t.number = numB (r.extract 5 13) ∧ 13 ≤ r.size)) := by
  unfold nread at h
  split at h
  · rename_i h5
    split at h
    · rename_i hi
      split at h
      · split at h
        · cases h; exact ⟨hi, by show (r.extract 5 r.size).size ≤ 4000; rw [ByteArray.size_extract]; omega, .inl rfl⟩
        · cases h
      · split at h
        · rename_i hk
          split at h
          · cases h
          · rename_i hn
            cases h
            have hq : 1 ≤ numB (r.extract 5 13) ∧ r.size - 13 ≤ 4000 := Classical.byContradiction fun e => hn (.inr e)
            exact ⟨hi, by show (r.extract 13 r.size).size ≤ 4000; rw [ByteArray.size_extract]; omega, .inr ⟨hk.1, hq.1, rfl, hk.2⟩⟩
        · cases h
    · cases h
  · cases h
theorem numB_lt {s : ByteArray} (hs : s.size = 8) : numB s < 18446744073709551616 := by
  have h1 : (s.extract 0 4).size = 4 := by rw [ByteArray.size_extract]; omega
  have h2 : (s.extract 4 8).size = 4 := by rw [ByteArray.size_extract]; omega
  have l1 : le (bl (s.extract 0 4)) < 4294967296 := by have := le_lt (bl (s.extract 0 4)); rw [← size_bl, h1] at this; simpa using this
  have l2 : le (bl (s.extract 4 8)) < 4294967296 := by have := le_lt (bl (s.extract 4 8)); rw [← size_bl, h2] at this; simpa using this
  unfold numB
  omega
end Ros
namespace Go.Proofs.Ytlboeaapmfpipaa
open Go.RowKit Go.Shelf Ros
attribute [local go_sem] Oper.semAt_some
set_option maxHeartbeats 1000000 in
theorem replayN_none (r : ByteArray) (hr : r.size ≤ 140737488355328) (w : World) (g : Nat) (hn : nread r = none) :
    Calls Try.prog 18 #[.pointer (some ⟨g, 0, none⟩), .string r] w fun e w' => e = .returned (.int .i64 2) ∧ Below w.heap.size w w' := by
  have HR := Lib.hid (fun W => readN_shape r W hr)
  rw [hn] at HR
  go_enter Try.func18, Try.ntmps18
  go_wp2_with (go_at_call 30; (with_reducible refine (HR.out _).mono ?_); rintro e w1 ⟨t, ⟨rfl, _⟩, hb⟩; unfold encTold; have HB := Lib.hid hb; clear hb)
  go_ret
  exact ⟨rfl, HB.out.alloc HB.out.size _⟩
set_option maxHeartbeats 1000000 in
theorem replayN_dec (r : ByteArray) (hr : r.size ≤ 140737488355328) (w : World) (S : Nat → Prop) (g c : Nat) (s : Nd) (h : NdA w S g s c) (hc : c ≤ 1000000) (hlen : s.len ≤ 10000) (t : Ros.Told) (hn : nread r = some t) (hk : t.kind = 100) :
    Calls Try.prog 18 #[.pointer (some ⟨g, 0, none⟩), .string r] w fun e w' => e = .returned (.int .i64 (nlearn s t.inst t.value).1.2) ∧ NdA w' S g (nlearn s t.inst t.value).2 (c + 1) ∧ Turn S S w w' := by
  have HR := Lib.hid (fun W => readN_shape r W hr)
  rw [hn] at HR
  obtain ⟨hi, hv, _⟩ := nread_ok hn
  have hlt := h.lt
  have HL := Lib.hid (fun W (hW : NdA W S g s c) => learnN_any (t.inst : Int) t.value (by omega) W S g c s hW hc hlen)
  have HN := Lib.hid h
  have HS := Lib.hid hlt
  obtain ⟨k, i, n, v⟩ := t
  dsimp only at hk hi hv HL HR ⊢
  clear hn h hlt
  subst hk
  generalize (nlearn s (i : Int) v).1.1 = x1 at *
  generalize (nlearn s (i : Int) v).1.2 = x2 at *
  go_enter Try.func18, Try.ntmps18
  go_wp2_with (first
    | (go_at_call 30; (with_reducible refine (HR.out _).mono ?_); rintro e w1 ⟨t2, ⟨rfl, ht⟩, hb⟩; cases ht _ rfl; unfold encTold; have HB := Lib.hid hb; clear hb)
    | (go_at_call 14; (with_reducible refine (HL.out _ ((HN.out.below HB.out).below ((Below.refl _ _).alloc (Nat.le_refl _) _))).mono ?_); rintro e w2 ⟨rfl, hN, hT⟩))
  go_ret
  exact ⟨rfl, hN, ((Turn.of_below (HB.out.alloc HB.out.size _) HS.out).trans hT)⟩
set_option maxHeartbeats 1000000 in
theorem replayN_gone (r : ByteArray) (hr : r.size ≤ 140737488355328) (w : World) (S : Nat → Prop) (g c : Nat) (s : Nd) (h : NdA w S g s c) (t : Ros.Told) (hn : nread r = some t) (hk : ¬ t.kind = 100) (hg : t.inst ≤ s.gone) :
    Calls Try.prog 18 #[.pointer (some ⟨g, 0, none⟩), .string r] w fun e w' => e = .returned (.int .i64 0) ∧ Below w.heap.size w w' := by
  have HR := Lib.hid (fun W => readN_shape r W hr)
  rw [hn] at HR
  have HC := Lib.hid (fun (w' : World) (hb : Below w.heap.size w w') => (h.below hb).cells.2.1)
  obtain ⟨k, i, n, v⟩ := t
  unfold encTold at HR
  dsimp only at hk hg HR ⊢
  have k1 : ((k.toNat : Int) == 100) = false := by
    have : ¬ k.toNat = 100 := fun e => hk ((kind_nat (n := 100) (by decide)).2 e)
    simp; omega
  have hgd : (i : Int) ≤ (s.gone : Int) := by omega
  clear hn h hk hg
  generalize (s.gone : Int) = G at *
  have hgd2 : decide ((i : Int) ≤ G) = true := by simp [hgd]
  go_enter Try.func18, Try.ntmps18
  go_wp2_with (go_at_call 30; (with_reducible refine (HR.out _).mono ?_); rintro e w1 ⟨t2, ⟨rfl, ht⟩, hb⟩; cases ht _ rfl; have q3 := HC.out _ (hb.alloc hb.size (.cells #[.int .u8 (k.toNat : Int), .int .i64 (i : Int), .int .u64 (n : Int), .string v] 72)); have HB := Lib.hid hb; clear hb)
  go_quiet (fail)
  go_wp2
  go_ret
  exact ⟨rfl, below_dN (HB.out.alloc HB.out.size _) _⟩
end Go.Proofs.Ytlboeaapmfpipaa
namespace Go.Proofs.Ytlboeaapmfpipaa
open Go.RowKit Go.Shelf Ros
attribute [local go_sem] Oper.semAt_some
theorem vt_neq_same (a : Vt) (w : World) : (binOp .neq 27 (encVt a) (encVt a)).run Try.prog w = .ok (.bool false) w := by
  unfold encVt
  go_simp
theorem vt_neq_diff (a b : Vt) (h : ¬ a = b) (w : World) : (binOp .neq 27 (encVt a) (encVt b)).run Try.prog w = .ok (.bool true) w := by
  unfold encVt
  go_simp
  intro e1 e2 e3
  have h1 : a.p = b.p := by exact_mod_cast e1
  have h2 : a.b = b.b := by exact_mod_cast e2
  rw [toList_bl, toList_bl] at e3
  have h3 := bl_inj e3
  apply h
  cases a; cases b; dsimp only at h1 h2 h3; rw [h1, h2, h3]
end Go.Proofs.Ytlboeaapmfpipaa
