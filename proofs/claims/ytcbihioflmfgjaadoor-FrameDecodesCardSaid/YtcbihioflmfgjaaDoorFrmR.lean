/-
  Frames and bytes are one to one: plain laws on what Encode and Decode come to. Conditions: none.
-/
import Derived.Test.YtcbihioflmfgjaaDoorFrmN
namespace Ros
open Go Go.RowKit
theorem mid_list {a b c : List UInt8} {i j : Nat} (ha : a.length = i) (hb : i + b.length = j) : ((a ++ b ++ c).take j).drop i = b := by
  subst ha; subst hb
  rw [← List.length_append, List.take_left', List.drop_left']
  · rfl
  · simp
theorem numN_of {u : ByteArray} {a c : List UInt8} {n i : Nat} (hi : a.length = i) (h : bl u = a ++ toB 4 n ++ c) (hn : n < 4294967296) : numN u i = n := by
  subst hi
  unfold numN
  rw [bl_extract, h, mid_list rfl (by rw [toB_length]), (getN_put n hn).1]
theorem byteN_of {u : ByteArray} {l : List UInt8} {b : UInt8} {i : Nat} (h : bl u = l) (hb : l[i]? = some b) : byteN u i = b.toNat := by
  unfold byteN
  have e : u.data.toList = l := h
  rw [Array.getD_eq_getD_getElem?, ← Array.getElem?_toList, e, hb]
  rfl
theorem u8_small {n : Nat} (h : n < 256) : (UInt8.ofNat n).toNat = n := by
  rw [UInt8.toNat_ofNat']; omega
theorem put4_one (n : Nat) : put4 [n] = toB 4 n := by simp [put4]
theorem put4_three (a b c : Nat) : put4 [a, b, c] = toB 4 a ++ toB 4 b ++ toB 4 c := by simp [put4]
theorem headB_length (x : Fr) : (headB x).length = 4 := rfl
/-- What is read of a right frame's bytes is the frame. -/
theorem read_back (x : Fr) (ho : okF x) (hr : rightB x = true) : readE (str (bytesF x)) = 0 ∧ frameOf (str (bytesF x)) = x := by
  obtain ⟨hw, hk, hd, hs, ht, hh⟩ := (of_decide_eq_true hr : rightP x)
  have hb : bl (str (bytesF x)) = bytesF x := bl_str _
  have hsz : (str (bytesF x)).size = (if x.wire = 2 then 24 else 20) + x.data.size := by rw [str_size, bytesF_length]
  have hw2 : x.wire.toNat < 256 := by rcases hw with e | e <;> rw [e] <;> decide
  have hH : bytesF x = [72, UInt8.ofNat x.wire.toNat, UInt8.ofNat x.kind.toNat, UInt8.ofNat (16 * x.src + x.dst).toNat] ++ (put4 [x.life, x.seq, x.ack] ++ (if x.wire = 2 then put4 [x.hint] else []) ++ put4 [x.data.size] ++ bl x.data) := by
    unfold bytesF headB; simp only [List.append_assoc]
  have b0 : byteN (str (bytesF x)) 0 = 72 := by rw [byteN_of (b := 72) (hb.trans hH) rfl]; rfl
  have b1 : byteN (str (bytesF x)) 1 = x.wire.toNat := by rw [byteN_of (b := UInt8.ofNat x.wire.toNat) (hb.trans hH) rfl, u8_small hw2]
  have b2 : byteN (str (bytesF x)) 2 = x.kind.toNat := by rw [byteN_of (b := UInt8.ofNat x.kind.toNat) (hb.trans hH) rfl, u8_small (by omega)]
  have b3 : byteN (str (bytesF x)) 3 = (16 * x.src + x.dst).toNat := by rw [byteN_of (b := UInt8.ofNat (16 * x.src + x.dst).toNat) (hb.trans hH) rfl, u8_small (by omega)]
  have n4 : numN (str (bytesF x)) 4 = x.life := numN_of (a := headB x) rfl (c := toB 4 x.seq ++ toB 4 x.ack ++ (if x.wire = 2 then put4 [x.hint] else []) ++ put4 [x.data.size] ++ bl x.data) (by rw [hb]; unfold bytesF; rw [put4_three]; simp only [List.append_assoc]) ho.life
  have n8 : numN (str (bytesF x)) 8 = x.seq := by
    exact numN_of (a := headB x ++ toB 4 x.life) (by simp only [List.length_append, headB_length, toB_length]) (c := toB 4 x.ack ++ (if x.wire = 2 then put4 [x.hint] else []) ++ put4 [x.data.size] ++ bl x.data) (by rw [hb]; unfold bytesF; rw [put4_three]; simp only [List.append_assoc]) ho.seq
  have n12 : numN (str (bytesF x)) 12 = x.ack := by
    exact numN_of (a := headB x ++ toB 4 x.life ++ toB 4 x.seq) (by simp only [List.length_append, headB_length, toB_length]) (c := (if x.wire = 2 then put4 [x.hint] else []) ++ put4 [x.data.size] ++ bl x.data) (by rw [hb]; unfold bytesF; rw [put4_three]; simp only [List.append_assoc]) ho.ack
  have hds : x.data.size < 4294967296 := by omega
  rcases hw with h1 | h1
  · have hn2 : ¬ (x.wire = 2) := by omega
    have hB : byteN (str (bytesF x)) 1 = 1 := by rw [b1, h1]; rfl
    have ha : aheadN (str (bytesF x)) = 20 := (rd_frame1 _ hB).2.2
    have n16 : numN (str (bytesF x)) 16 = x.data.size := by
      exact numN_of (a := headB x ++ put4 [x.life, x.seq, x.ack]) (by simp only [List.length_append, headB_length, put4_length, List.length_cons, List.length_nil]) (c := bl x.data) (by rw [hb]; unfold bytesF; rw [if_neg hn2, put4_one, List.append_nil]) hds
    have hx : frameOf (str (bytesF x)) = x := by
      rw [(rd_frame1 _ hB).1, b2, b3, n4, n8, n12]
      have hdat : (str (bytesF x)).extract 20 (str (bytesF x)).size = x.data := by
        apply bl_inj
        rw [bl_extract, size_bl, List.take_length, hb]
        unfold bytesF
        rw [if_neg hn2, List.append_nil]
        have : (headB x ++ put4 [x.life, x.seq, x.ack] ++ put4 [x.data.size]).length = 20 := by simp [headB_length, put4_length]
        rw [← this, List.drop_left]
      rw [hdat]
      have h0 : x.hint = 0 := hh.resolve_left hn2
      obtain ⟨x0, x1, x2, x3, x4, x5, x6, x7, x8⟩ := x
      dsimp only at *
      subst h1 h0
      simp only [Fr.mk.injEq, true_and, and_true]
      omega
    refine ⟨?_, hx⟩
    unfold readE
    rw [if_neg (by rw [hsz, if_neg hn2, b0]; omega), if_neg (not_not_intro (by rw [hB]; exact .inl rfl)), if_neg (by rw [ha, hsz, if_neg hn2]; omega), if_neg]
    rw [hx, hr, ha, hsz, if_neg hn2, (rd_frame1 _ hB).2.1, n16]
    simp
  · have hB : byteN (str (bytesF x)) 1 = 2 := by rw [b1, h1]; rfl
    have ha : aheadN (str (bytesF x)) = 24 := (rd_frame2 _ hB).2.2
    have n16 : numN (str (bytesF x)) 16 = x.hint := by
      exact numN_of (a := headB x ++ put4 [x.life, x.seq, x.ack]) (by simp only [List.length_append, headB_length, put4_length, List.length_cons, List.length_nil]) (c := put4 [x.data.size] ++ bl x.data) (by rw [hb]; unfold bytesF; rw [if_pos h1, put4_one]; simp only [List.append_assoc]) ho.hint
    have n20 : numN (str (bytesF x)) 20 = x.data.size := by
      exact numN_of (a := headB x ++ put4 [x.life, x.seq, x.ack] ++ put4 [x.hint]) (by simp only [List.length_append, headB_length, put4_length, List.length_cons, List.length_nil]) (c := bl x.data) (by rw [hb]; unfold bytesF; rw [if_pos h1, put4_one x.data.size]) hds
    have hx : frameOf (str (bytesF x)) = x := by
      rw [(rd_frame2 _ hB).1, b2, b3, n4, n8, n12, n16]
      have hdat : (str (bytesF x)).extract 24 (str (bytesF x)).size = x.data := by
        apply bl_inj
        rw [bl_extract, size_bl, List.take_length, hb]
        unfold bytesF
        rw [if_pos h1]
        have : (headB x ++ put4 [x.life, x.seq, x.ack] ++ put4 [x.hint] ++ put4 [x.data.size]).length = 24 := by simp [headB_length, put4_length]
        rw [← this, List.drop_left]
      rw [hdat]
      obtain ⟨x0, x1, x2, x3, x4, x5, x6, x7, x8⟩ := x
      dsimp only at *
      subst h1
      simp only [Fr.mk.injEq, true_and, and_true]
      omega
    refine ⟨?_, hx⟩
    unfold readE
    rw [if_neg (by rw [hsz, if_pos h1, b0]; omega), if_neg (not_not_intro (by rw [hB]; exact .inr rfl)), if_neg (by rw [ha, hsz, if_pos h1]; omega), if_neg]
    rw [hx, hr, ha, hsz, if_pos h1, (rd_frame2 _ hB).2.1, n20]
    simp
theorem take_seg (l : List UInt8) {i j : Nat} (h : i ≤ j) : l.take i ++ (l.take j).drop i = l.take j := by
  have := List.take_append_drop i (l.take j)
  rwa [List.take_take, Nat.min_eq_left h] at this
theorem toB_num (u : ByteArray) {i j : Nat} (hj : i + 4 = j) (h : j ≤ u.size) : toB 4 (numN u i) = ((bl u).take j).drop i := by
  subst hj
  unfold numN
  rw [bl_extract]
  have hl : (((bl u).take (i + 4)).drop i).length = 4 := by
    rw [List.length_drop, List.length_take, ← size_bl]; omega
  rw [(getN_yes hl).1]
  have := toB_le (((bl u).take (i + 4)).drop i)
  rwa [hl] at this
theorem byte_list (u : ByteArray) {i : Nat} (h : i < u.size) : (bl u)[i]? = some (UInt8.ofNat (byteN u i)) := by
  have hl : i < (bl u).length := by rw [← size_bl]; exact h
  rw [List.getElem?_eq_getElem hl]
  have e := byteN_of (u := u) rfl (List.getElem?_eq_getElem hl)
  rw [e]
  simp
theorem take_four (u : ByteArray) (h : 4 ≤ u.size) : (bl u).take 4 = [UInt8.ofNat (byteN u 0), UInt8.ofNat (byteN u 1), UInt8.ofNat (byteN u 2), UInt8.ofNat (byteN u 3)] := by
  apply List.ext_getElem?
  intro i
  rw [List.getElem?_take]
  match i with
  | 0 => simp [byte_list u (show 0 < u.size by omega)]
  | 1 => simp [byte_list u (show 1 < u.size by omega)]
  | 2 => simp [byte_list u (show 2 < u.size by omega)]
  | 3 => simp [byte_list u (show 3 < u.size by omega)]
  | n + 4 =>
    rw [if_neg (by omega)]
    rfl
/-- Bytes that are read are the bytes of their frame. -/
theorem read_forth (u : ByteArray) (hu : u.size ≤ 1000000) (h : readE u = 0) : bytesF (frameOf u) = bl u ∧ rightB (frameOf u) = true ∧ okF (frameOf u) := by
  have hn : ∀ n : Int, n ≠ 0 → readE u ≠ n := fun n hn e => hn (by rw [← e]; exact h)
  have h1 : ¬ (u.size < 2 ∨ byteN u 0 ≠ 72) := fun e => hn 20 (by omega) (by unfold readE; rw [if_pos e])
  have h2 : isW (byteN u 1 : Int) := Decidable.byContradiction fun e => hn 22 (by omega) (by unfold readE; rw [if_neg h1, if_pos e])
  have h3 : ¬ (u.size < aheadN u) := fun e => hn 20 (by omega) (by unfold readE; rw [if_neg h1, if_neg (not_not_intro h2), if_pos e])
  have h4 : ¬ (sizeN u ≠ u.size - aheadN u ∨ rightB (frameOf u) = false) := fun e => hn 20 (by omega) (by unfold readE; rw [if_neg h1, if_neg (not_not_intro h2), if_neg h3, if_pos e])
  have hr : rightB (frameOf u) = true := by
    cases e : rightB (frameOf u) with
    | true => rfl
    | false => exact absurd (.inr e) h4
  have hs : sizeN u = u.size - aheadN u := Decidable.byContradiction fun e => h4 (.inl e)
  have hb2 := byteN_lt u 2
  have hb3 := byteN_lt u 3
  have h72 : byteN u 0 = 72 := by omega
  have hb3' : (16 * ((byteN u 3 : Int) / 16) + (byteN u 3 : Int) % 16).toNat = byteN u 3 := by omega
  have h12 : byteN u 1 = 1 ∨ byteN u 1 = 2 := by unfold isW at h2; omega
  rcases h12 with hB | hB
  · obtain ⟨hf, hz, ha⟩ := rd_frame1 u hB
    rw [ha] at h3 hs
    have hdl : (u.extract 20 u.size).size = u.size - 20 := by rw [ByteArray.size_extract, Nat.min_self]
    refine ⟨?_, hr, ?_⟩
    · rw [hf]
      unfold bytesF headB
      dsimp only
      rw [if_neg (by decide), put4_three, put4_one, hdl, ← hs, hz, hb3', List.append_nil, bl_extract, size_bl, List.take_length]
      rw [toB_num u (i := 4) (j := 8) rfl (by omega), toB_num u (i := 8) (j := 12) rfl (by omega), toB_num u (i := 12) (j := 16) rfl (by omega), toB_num u (i := 16) (j := 20) rfl (by omega)]
      have hf4 := take_four u (by omega)
      rw [h72, hB] at hf4
      rw [show ([72, UInt8.ofNat (1 : Int).toNat, UInt8.ofNat (byteN u 2 : Int).toNat, UInt8.ofNat (byteN u 3)] : List UInt8) = (bl u).take 4 from hf4.symm]
      rw [← List.append_assoc, ← List.append_assoc, take_seg _ (by omega), take_seg _ (by omega), take_seg _ (by omega), take_seg _ (by omega), List.take_append_drop]
    · rw [hf]
      exact okF_rd (.inl rfl) hb2 hb3 (numN_lt _ _) (numN_lt _ _) (numN_lt _ _) (by omega) (by rw [hdl]; unfold maxLen; omega)
  · obtain ⟨hf, hz, ha⟩ := rd_frame2 u hB
    rw [ha] at h3 hs
    have hdl : (u.extract 24 u.size).size = u.size - 24 := by rw [ByteArray.size_extract, Nat.min_self]
    refine ⟨?_, hr, ?_⟩
    · rw [hf]
      unfold bytesF headB
      dsimp only
      rw [if_pos rfl, put4_three, put4_one, put4_one, hdl, ← hs, hz, hb3', bl_extract, size_bl, List.take_length]
      rw [toB_num u (i := 4) (j := 8) rfl (by omega), toB_num u (i := 8) (j := 12) rfl (by omega), toB_num u (i := 12) (j := 16) rfl (by omega), toB_num u (i := 16) (j := 20) rfl (by omega), toB_num u (i := 20) (j := 24) rfl (by omega)]
      have hf4 := take_four u (by omega)
      rw [h72, hB] at hf4
      rw [show ([72, UInt8.ofNat (2 : Int).toNat, UInt8.ofNat (byteN u 2 : Int).toNat, UInt8.ofNat (byteN u 3)] : List UInt8) = (bl u).take 4 from hf4.symm]
      rw [← List.append_assoc, ← List.append_assoc, take_seg _ (by omega), take_seg _ (by omega), take_seg _ (by omega), take_seg _ (by omega), take_seg _ (by omega), List.take_append_drop]
    · rw [hf]
      exact okF_rd (.inr rfl) hb2 hb3 (numN_lt _ _) (numN_lt _ _) (numN_lt _ _) (numN_lt _ _) (by rw [hdl]; unfold maxLen; omega)
theorem open_sealed {l : List UInt8} (h : openB l = true) : seal4 (openL l) = l := by
  have h4 : 4 ≤ l.length := Decidable.byContradiction fun e => by rw [openB_short (by omega)] at h; cases h
  have hs := h
  rw [openB_long h4] at hs
  rw [openL_yes h]
  unfold sealed at hs
  unfold seal4
  rw [← eq_of_beq hs, List.take_append_drop]
end Ros
