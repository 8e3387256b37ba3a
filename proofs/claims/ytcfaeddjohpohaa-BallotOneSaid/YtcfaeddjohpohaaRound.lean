/-
  A region that draws its order, within a round of a range over a function: the plain laws carried over. Conditions: no operation is a defer statement; the walk's post lets nothing outgrow.
-/
import Derived.Test.YtcfaeddjohpohaaIter
import Derived.OrdersIn
import Derived.StillTailTactics
import Derived.Deep.QuietTactic
import Derived.BigQuiet
namespace Ros
open Go Go.RowKit

def noDefer (o : Oper) : Bool := match o.op with | .defer _ => false | _ => true
theorem noDefer_spec {o : Oper} (h : noDefer o = true) : ∀ c, o.op ≠ .defer c := by
  intro c e; unfold noDefer at h; rw [e] at h; cases h

theorem oper_round {P : Program} {o : Oper} {a : Act} {w : World} {K K' : Act → World → Prop} {Q : Exit → Act → World → Prop} (r m : Nat) (hd : noDefer o = true) (hk : ∀ a w, K a w → K' a w) (h : o.wp P a w K Q) :
    o.wpIn (Fence.wide.inRound r) m P a w K' Q := by
  refine ⟨fun _ _ => trivial, ?_⟩
  rw [show (Fence.wide.inRound r).round = some r from rfl, Oper.semAt_some r a.eval o (noDefer_spec hd)]
  unfold Oper.wp at h
  generalize (execOp a.eval o).run P w = res at *
  cases res with
  | ok x w' =>
    cases x <;> simp only [Oper.upon, Oper.uponIn] at h ⊢ <;>
      first
        | exact hk _ _ h
        | exact ⟨fun h => by simp [Fence.wide, Fence.inRound] at h, (in_round r _ h).mono (fun e w'' he => by cases e <;> first | exact hk _ _ he | exact he)⟩
        | exact ⟨fun h => by simp [Fence.wide, Fence.inRound] at h, fun c cs _ => (let ⟨v, w3, hr, hs⟩ := h c cs; ⟨v, w3, hk _ _ hr, stepsIn_wide.2 hs⟩)⟩
        | exact h.elim
  | halt x w' => cases x <;> simp only [Oper.upon, Oper.uponIn] at h ⊢ <;> exact h

theorem any_round {P : Program} {md : Region.Mode} {ops : Array Oper} {Q : Exit → Act → World → Prop} (r m : Nat) (hd : ∀ (i : Nat) (o : Oper), ops[i]? = some o → noDefer o = true) (hq : ¬ LetsOut Q) :
    ∀ (fuel : Nat) (listed : Array Bool) (a : Act) (w : World), wpAny P md ops Q fuel listed a w → wpAnyIn (Fence.wide.inRound r) m P md ops Q fuel listed a w
  | 0, _, _, _, h => h
  | fuel + 1, listed, a, w, h => by
    refine ⟨h.1, fun i hi => ?_⟩
    have h2 := h.2 i hi
    unfold wpOp at h2
    unfold wpOpIn
    cases ho : ops[i]? with
    | none => rw [ho] at h2; exact any_round r m hd hq fuel _ a w h2
    | some o =>
      rw [ho] at h2
      simp only at h2 ⊢
      split
      · rename_i hw
        rw [if_pos hw] at h2
        rcases h2 with h2 | h2
        · exact oper_round r m (hd i o ho) (fun a' w' => any_round r m hd hq fuel _ a' w') h2
        · exact absurd h2.2 hq
      · rename_i hw
        rw [if_neg hw] at h2
        exact ⟨fun _ _ => trivial, any_round r m hd hq fuel _ _ _ h2⟩

theorem round_any {P : Program} {id : Nat} {ops : Array Oper} {Q : Exit → Act → World → Prop} {a : Act} {w : World} (r m : Nat) (hm : P.follows .mixedOrders = true) (hd : ops.all noDefer = true) (hq : ¬ LetsOut Q)
    (h : wpAny P .any ops Q ops.size (Array.replicate ops.size false) a { w with drawn := w.drawn + 1 }) : (Code.region id ops true).wpIn (Fence.wide.inRound r) m P Q a w :=
  wpIn_region_any hm (any_round r m (fun i o ho => by
    rw [Array.all_eq_true] at hd
    obtain ⟨hlt, he⟩ := Array.getElem?_eq_some_iff.1 ho
    rw [← he]; exact hd i hlt) hq _ _ _ _ h)

theorem round_still_tail {P : Program} {id : Nat} {Q : Exit → Act → World → Prop} {a : Act} {w : World} {l : List Oper} (r m n : Nat) (hm : P.follows .mixedOrders = true) (hB : Region.lexTailB .any l.toArray n = true) (hd : l.toArray.all noDefer = true) (hq : ¬ LetsOut Q)
    (h : wpStill P l.toArray { w with drawn := w.drawn + 1 } (fun a' => wpList P l.toArray Q (l.drop n) a' { w with drawn := w.drawn + 1 }) (l.take n) a) : (Code.region id l.toArray true).wpIn (Fence.wide.inRound r) m P Q a w := by
  simp only [Region.lexTailB, Bool.and_eq_true, decide_eq_true_eq] at hB
  obtain ⟨⟨⟨⟨hsel, hn⟩, hs⟩, hc⟩, hlex⟩ := hB
  have hn' : n < l.length := by simpa using hn
  have htl : (l.take n).length = n := by simp; omega
  have hdl : (l.drop n).length = l.toArray.size - n := by simp
  have inv0 : HeadInv .any l.toArray n (Array.replicate l.toArray.size false) :=
    ⟨by simp, fun j oj _ hl => (by rw [getD_replicate_false] at hl; cases hl), fun t _ ht => getD_in (by simpa using ht) (getD_replicate_false _ _)⟩
  have H := wpAnyL_lex (md := .any) (g := l.toArray.size - n) hsel hs hc hn (l.take n) 0 _ a (fun j hj => by
    have hj' : j < n := by rw [htl] at hj; exact hj
    simp [hj']) (by simpa using htl) inv0 (by rw [htl]; exact hlex) h
  refine round_any r m hm hd hq ?_
  have := wpAny_of_head (Q' := Q) (g := l.toArray.size - n) (fun listed a' hL => by
    have := wpAny_of_seq (md := .any) (Q' := Q) (l.drop n) n listed a' { w with drawn := w.drawn + 1 } (fun j => by simp [List.getElem?_drop]) (by rw [hdl]; exact hL.1) hL.2
    rwa [hdl] at this) _ _ _ H
  rw [htl, show n + (l.toArray.size - n) = l.toArray.size by omega] at this
  exact this

theorem round_quiet {P : Program} {id : Nat} {Q : Exit → Act → World → Prop} {a : Act} {w : World} {l : List Oper} {C : World → Prop} (r m : Nat) (hm : P.follows .mixedOrders = true) (hB : Region.lexB .any l.toArray = true) (hd : l.toArray.all noDefer = true) (hq : ¬ LetsOut Q) (hC : C { w with drawn := w.drawn + 1 })
    (h : wpQuiet P l.toArray C (fun a' => ∀ w', C w' → Q .normal a' w') l a) : (Code.region id l.toArray true).wpIn (Fence.wide.inRound r) m P Q a w := by
  simp only [Region.lexB, Bool.and_eq_true] at hB
  refine round_any r m hm hd hq (wpAny_of_quiet (Q := fun a' => ∀ w', C w' → Q .normal a' w') (fun _ w' hw' h => h w' hw') _ _ _ _ hC ?_)
  have := wpAnyQ_lex (C := C) (md := .any) hB.1 l 0 (Array.replicate l.toArray.size false) a (by simp) (by simpa using hB.2) h
  simpa using this
end Ros
