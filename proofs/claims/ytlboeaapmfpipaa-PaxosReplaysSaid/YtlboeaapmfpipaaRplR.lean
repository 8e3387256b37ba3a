/-
  A node behind acts, and its records: the walk. Conditions: none but the arguments' own.
-/
import Derived.Test.YtlboeaapmfpipaaRplN
import Derived.Test.YtlboeaapmfpipaaLeaC
namespace Ros
open Go Go.RowKit
theorem nread_size {r : ByteArray} {t : Ros.Told} (h : nread r = some t) : r.size ≤ 4013 := by
  unfold nread at h
  split at h
  · split at h
    · split at h
      · split at h
        · omega
        · cases h
      · split at h
        · split at h
          · cases h
          · rename_i hn
            have hq : 1 ≤ numB (r.extract 5 13) ∧ r.size - 13 ≤ 4000 := Classical.byContradiction fun e => hn (.inr e)
            omega
        · cases h
    · cases h
  · cases h
theorem chain_size : ∀ (l : List ByteArray) (m : Nd), Chain m l → ∀ r ∈ l, r.size ≤ 4013
  | [], _, _, _, h => by simp at h
  | a :: l, m, hc, r, h => by
    rcases List.mem_cons.1 h with rfl | h
    · obtain ⟨t, ht, _⟩ := hc.1; exact nread_size ht
    · exact chain_size l (nreplay m a).2 hc.2 r h
end Ros
namespace Go.Proofs.Ytlboeaapmfpipaa
open Go.RowKit Go.Shelf Ros
attribute [local go_sem] Oper.semAt_some
/-- A slice of the law's own that grows. -/
def TR (v : Value) : Nat → Prop := fun k => v.ownBlock = some k
def FR (v : Value) (l : List ByteArray) : World → Prop := fun W => Row W 9 1 v l.length (l.map Value.string)
theorem frame_FR {v : Value} {l : List ByteArray} {X Y : World} (hk : ∀ k, TR v k → Y.heap[k]? = X.heap[k]?) (h : FR v l X) : FR v l Y := Row.keep h fun k e => hk k e
theorem NX.append {w0 W W' : World} {S : Nat → Prop} {g c : Nat} {s : Nd} {v v' : Value} {l l' : List ByteArray} (h : NX w0 W S g s c (TR v) (FR v l)) (hr : FR v' l' W') (hg : W.grownBy W' v.ownBlock) (ha : v'.ownBlock = v.ownBlock ∨ v'.ownBlock = some W.heap.size) : NX w0 W' S g s c (TR v') (FR v' l') := by
  have hlt := h.nd.lt
  refine ⟨h.nd.keep fun k hk => hg.block k (hlt k hk) fun e => (h.apart k e.symm).2.1 hk, h.below.grown hg h.below.size fun k hk => (h.apart k hk).2.2, h.own, fun k hk => ?_, fun X Y _ hk h => frame_FR hk h, hr⟩
  have hkl : k < W'.heap.size := Row.lt hr hk
  rcases ha with e | e
  · have hk' : TR v k := e.symm.trans hk
    exact ⟨hkl, (h.apart k hk').2⟩
  · have hk2 : v'.ownBlock = some k := hk
    rw [e] at hk2
    have hk' : W.heap.size = k := by simpa using hk2
    subst hk'
    exact ⟨hkl, h.new⟩
set_option maxRecDepth 100000 in
set_option maxHeartbeats 8000000 in
theorem records_any (A : Option Addr) (n c : Nat) (xs : List Pa) (w : World) (ha : PasAt w A n xs) :
    Calls Try.prog 17 #[.slice A n c] w fun e W => ∃ (g : Nat) (S : Nat → Prop) (s : Nd) (l : List ByteArray) (A2 : Option Addr) (cap : Nat), e = .returned (.tuple #[.pointer (some ⟨g, 0, none⟩), .slice A2 l.length cap]) ∧ Hist s l ∧ l.length ≤ 60 ∧ NX w W S g s 60 (TR (.slice A2 l.length cap)) (FR (.slice A2 l.length cap) l) := by
  obtain ⟨i0, hi0, hz0, hz1, hz2⟩ := info_parts str_info
  have HA := Lib.hid ha
  clear ha
  go_enter Try.func17, Try.ntmps17
  go_wp2_with (go_at_call 10; refine (nnew_any _).mono ?_; rintro e w1 ⟨g, S, rfl, hg, hS, n1, b1⟩; have N1 := Lib.hid (show NX w w1 S g nd0 0 (fun _ => False) (fun _ => True) from ⟨n1, b1, hS, fun _ hk => hk.elim, fun _ _ _ _ _ => trivial, trivial⟩); clear n1 b1 hS hg)
  go_loopw [5, 6] (fun out i wr => ∃ (k : Nat) (s : Nd) (l : List ByteArray) (A2 : Option Addr) (cap : Nat), k ≤ 60 ∧ k ≤ n ∧ i = .int .i64 k ∧ out = .slice A2 l.length cap ∧ l.length ≤ k ∧ Hist s l ∧ NX w wr S g s k (TR (.slice A2 l.length cap)) (FR (.slice A2 l.length cap) l)) (fun _ i _ => 60 - (intOf i).toNat)
  case atStart => exact ⟨0, nd0, [], none, 0, by omega, by omega, rfl, rfl, Nat.le_refl _, hist_start, N1.out.more (fun k hk => by cases hk) (fun X Y _ hk h => frame_FR hk h) (fun _ => Row.nil _ _ _)⟩
  case round =>
    obtain ⟨k, s, l, A2, cap, hk, hkn, rfl, rfl, hlk, hh, hN⟩ := hrel
    by_cases hlt : k < n ∧ k < 60
    · obtain ⟨hl1, hl2⟩ := hlt
      obtain ⟨a, x, rfl, hal, hxm, hox, c0, c1, c2, c3⟩ := (HA.out.below hN.below).act2 k hl1
      have HX := Lib.hid hox
      have HH := Lib.hid hh
      have HN := Lib.hid hN
      have HN2 := Lib.hid (show NX w (wr.alloc (.cells #[.int .i64 x.d, .int .i64 x.i, .int .u64 (x.b : Int), .string x.s] 45)) S g s k (fun j => TR (.slice A2 l.length cap) j ∨ j = wr.heap.size) (fun W => FR (.slice A2 l.length cap) l W ∧ boxP W wr.heap.size x) from
        (hN.alloc _).more (fun j hj => hj.elim .inl (fun e => .inr ⟨by subst e; simp, by rw [e]; exact hN.new.1, by rw [e]; exact hN.new.2⟩)) (fun X Y hs hk h => ⟨frame_FR (fun k h => hk _ (.inl h)) h.1, (hk _ (.inr rfl)).trans h.2⟩) (fun h => ⟨h, World.alloc_heap_new wr _⟩))
      clear hN hh hox
      have hd60 : decide ((k : Int) < 60) = true := by simp; omega
      go_upto_block 2 with fail
      have HX2 := Lib.hid (HN2.out.rest.2)
      have HS := Lib.hid HH.out.good
      clear c0 c1 c2 c3 hal HN
      generalize wr.alloc (.cells #[.int .i64 x.d, .int .i64 x.i, .int .u64 (x.b : Int), .string x.s] 45) = w2 at *
      have Z2 := obj_lt HX2.out
      obtain ⟨a0, a1, a2, a3⟩ := cells4 HX2.out
      have HP := Lib.hid (fun W (hW : NX w W S g s k (fun j => TR (.slice A2 l.length cap) j ∨ j = wr.heap.size) (fun W => FR (.slice A2 l.length cap) l W ∧ boxP W wr.heap.size x)) => prom_x hW (by omega) HS.out x.i HX.out.2.1 x.b HX.out.2.2.1)
      have HC := Lib.hid (fun W (hW : NX w W S g s k (fun j => TR (.slice A2 l.length cap) j ∨ j = wr.heap.size) (fun W => FR (.slice A2 l.length cap) l W ∧ boxP W wr.heap.size x)) => cast_x hW (by omega) HS.out x.i HX.out.2.1 x.b HX.out.2.2.1 (textP x) (textP_size x))
      have HL := Lib.hid (fun W (hW : NX w W S g s k (fun j => TR (.slice A2 l.length cap) j ∨ j = wr.heap.size) (fun W => FR (.slice A2 l.length cap) l W ∧ boxP W wr.heap.size x)) => learn_x hW (by omega) HS.out x.i (textP x) (textP_size x))
      have HT := Lib.hid (fun W => ptext_any x W HX.out.2.2.2)
      go_cut [8, 9] from 28 to 64 (fun sv ev wx => ∃ (s' : Nd) (rl : List UInt8) (er : Int), sv = .string (str rl) ∧ ev = .int .i64 er ∧ Hist s' (if er = 0 ∧ rl ≠ [] then l ++ [str rl] else l) ∧ NX w wx S g s' (k + 1) (fun j => TR (.slice A2 l.length cap) j ∨ j = wr.heap.size) (fun W => FR (.slice A2 l.length cap) l W ∧ boxP W wr.heap.size x))
      case first =>
        rcases do5 x.d with hm | hm | hm | hm | hm
        · clear HC HL HT
          have U := Lib.hid (hist_prom HH.out x HX.out)
          unfold encVt at HP
          generalize (nprom s x.i x.b).1.1.2 = rl at *
          generalize (nprom s x.i x.b).1.2 = er at *
          go_wp2_with (go_at_call 11; (with_reducible refine (HP.out _ HN2.out).mono ?_); rintro e w3 ⟨rfl, h3⟩; have N3 := Lib.hid h3; clear h3)
          go_meet
          exact ⟨_, rl, er, rfl, rfl, U.out, N3.out⟩
        · clear HP HL
          have U := Lib.hid (hist_cast HH.out x HX.out)
          generalize (ncast s x.i x.b (textP x)).1.1 = rl at *
          generalize (ncast s x.i x.b (textP x)).1.2 = er at *
          go_wp2
          go_region_held3 (fun w' => w'.cell? ⟨wr.heap.size, 0, none⟩ = some (.int .i64 x.d) ∧ w'.cell? ⟨wr.heap.size, 1, none⟩ = some (.int .i64 x.i) ∧ w'.cell? ⟨wr.heap.size, 2, none⟩ = some (.int .u64 (x.b : Int)) ∧ w'.cell? ⟨wr.heap.size, 3, none⟩ = some (.string x.s)) (first | exact cells4 h3.rest.2 | go_keep) ((first
            | (go_simp; go_at_call 21; (with_reducible refine (HT.out _).mono ?_); rintro e w3 ⟨rfl, b3⟩; have h3 := HN2.out.drew.on b3; have N3 := Lib.hid h3)
            | (go_simp; go_at_call 12; (with_reducible refine (HC.out _ N3.out).mono ?_); rintro e w4 ⟨rfl, h3⟩; have N4 := Lib.hid h3)))
          go_wp2
          go_meet
          exact ⟨_, rl, er, rfl, rfl, U.out, N4.out⟩
        · clear HP HC
          have U := Lib.hid (hist_learn HH.out x)
          generalize (nlearn s x.i (textP x)).1.1 = rl at *
          generalize (nlearn s x.i (textP x)).1.2 = er at *
          go_wp2
          go_region_held3 (fun w' => w'.cell? ⟨wr.heap.size, 0, none⟩ = some (.int .i64 x.d) ∧ w'.cell? ⟨wr.heap.size, 1, none⟩ = some (.int .i64 x.i) ∧ w'.cell? ⟨wr.heap.size, 2, none⟩ = some (.int .u64 (x.b : Int)) ∧ w'.cell? ⟨wr.heap.size, 3, none⟩ = some (.string x.s)) (first | exact cells4 h3.rest.2 | go_keep) ((first
            | (go_simp; go_at_call 21; (with_reducible refine (HT.out _).mono ?_); rintro e w3 ⟨rfl, b3⟩; have h3 := HN2.out.drew.on b3; have N3 := Lib.hid h3)
            | (go_simp; go_at_call 14; (with_reducible refine (HL.out _ N3.out).mono ?_); rintro e w4 ⟨rfl, h3⟩; have N4 := Lib.hid h3)))
          go_wp2
          go_meet
          exact ⟨_, rl, er, rfl, rfl, U.out, N4.out⟩
        · go_wp2
          go_meet
          exact ⟨s, [], 2, rfl, rfl, by rw [if_neg (fun e => e.2 rfl)]; exact HH.out, HN2.out.up (by omega)⟩
        · go_wp2
          go_meet
          exact ⟨s, [], 2, rfl, rfl, by rw [if_neg (fun e => e.2 rfl)]; exact HH.out, HN2.out.up (by omega)⟩
      case rest =>
        obtain ⟨s', rl, er, rfl, rfl, hh', hN'⟩ := hcut
        have N5 := Lib.hid (show NX w wc S g s' (k + 1) (TR (.slice A2 l.length cap)) (FR (.slice A2 l.length cap) l) from hN'.less (fun k hk => .inl hk) (fun X Y _ hk h => frame_FR hk h) (fun h => h.1))
        clear hN' HP HC HL HT HN2 HX2 HS a0 a1 a2 a3 Z2 HH
        by_cases he : er = 0 ∧ rl ≠ []
        · rw [if_pos he] at hh'
          have HH' := Lib.hid hh'
          obtain ⟨rfl, hr⟩ := he
          have hne := (nonempty_of (s := str rl) (by rw [size_str]; intro e; exact hr (List.eq_nil_of_length_eq_zero e))).2.1
          have hF := Lib.hid (show ∀ W, Row W 9 1 (.slice A2 l.length cap) l.length (l.map Value.string) → FR (.slice A2 l.length cap) l W from fun _ h => h)
          generalize str rl = z at *
          have ht1 := Lib.hid (show l.length + 1 ≤ maxLen by unfold maxLen; omega)
          have ht2 := Lib.hid (show (l.length + 1) * 16 ≤ 140737488355328 by omega)
          have hsrc := Lib.hid (fun (W : World) => Src.ofSlice (P := Try.prog) (size := 1) (W.alloc (.cells #[.string z] 9)) Try.underlying37 ⟨W.heap.size, 0, none⟩ 1 1 [.string z] rfl (World.news_of_block (World.alloc_heap_new W _)) (by intro u hu; simp at hu; subst hu; rfl))
          clear hr hh'
          go_wp2_with (at_builtin; refine wpList_append_row _ rfl (.tmp 71) (.tmp 73) _ _ rfl 9 i0 _ 1 16 Try.underlying37 hi0 hz0 hz1 hz2 rfl (.slice A2 l.length cap) l.length _ rfl (N5.out.alloc _).rest _ 1 _ rfl (hsrc.out _) ht1.out ht2.out ?_; intro A3 c3 w6 hr2 hg2 hat2)
          have HLn := Lib.hid (show l.length + 1 = (l ++ [z]).length by simp)
          have HY := Lib.hid ((N5.out.alloc (.cells #[.string z] 9)).append (v' := .slice A3 (l.length + 1) c3) (l' := l ++ [z]) (by unfold FR; rw [List.map_append, List.length_append]; exact hr2) hg2 hat2)
          clear hr2 hg2 hat2
          go_roundw
          case rel => exact ⟨k + 1, s', l ++ [z], A3, c3, by omega, by omega, by go_num, by rw [← HLn.out], by rw [← HLn.out]; omega, HH'.out, by rw [← HLn.out]; exact HY.out⟩
          case measure => simp [intOf]; omega
        · rw [if_neg he] at hh'
          have HH' := Lib.hid hh'
          by_cases h0 : er = 0
          · subst h0
            have hr : rl = [] := Classical.byContradiction fun e => he ⟨rfl, e⟩
            subst hr
            have hne : (str []).toList.isEmpty = true := by rw [toList_bl, bl_str]; rfl
            clear hh' he
            go_wp2
            go_roundw
            case rel => exact ⟨k + 1, s', l, A2, cap, by omega, by omega, by go_num, rfl, by omega, HH'.out, N5.out⟩
            case measure => simp [intOf]; omega
          · clear hh' he
            go_wp2
            go_roundw
            case rel => exact ⟨k + 1, s', l, A2, cap, by omega, by omega, by go_num, rfl, by omega, HH'.out, N5.out⟩
            case measure => simp [intOf]; omega
    · by_cases hl : k < n
      · have hl2 : 60 ≤ k := by omega
        go_wp2
        go_ret2
        exact ⟨g, S, s, l, A2, cap, rfl, hh, by omega, hN.up (by omega)⟩
      · go_wp2
        go_ret2
        exact ⟨g, S, s, l, A2, cap, rfl, hh, by omega, hN.up (by omega)⟩
end Go.Proofs.Ytlboeaapmfpipaa
