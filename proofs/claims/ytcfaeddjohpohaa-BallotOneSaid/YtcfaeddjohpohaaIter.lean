/-
  A range over a function, at the wide fence: the contract of an iterator that walks over a given list ('IterOn'), and the law of the loop ('range_law'). Conditions: the iterator only makes new memory between two rounds; the loop's body leaves the objects that are not cells as they lay.
-/
import Derived.RangeFuncNested
import Derived.RangeFuncLeaves
import Derived.RangeFuncBound
import Derived.RangeFuncCalls
import Derived.WalkKit
import Derived.OwnWalkIn
import Derived.TacticsInMore
import Derived.LoopNIn
import Derived.LoopIn
import Derived.Shelf.Abstract
namespace Ros
open Go Go.RowKit

/-- What abides new blocks. -/
def Grows {β : Type} (J : β → World → Prop) : Prop := ∀ s A B, J s A → A.grownBy B none → J s B

theorem grows_below {β : Type} {J : β → World → Prop} (h : Grows J) {s : β} {A B : World} (hs : J s A) (hb : Below A.heap.size A B) : J s B :=
  h s A B hs ⟨hb.os, hb.tape, hb.output, hb.size, fun k hk _ => hb.block k hk⟩

/-- The iterator g walks over xs: each round is asked at the element that is next; 'Rd' is what the iterator reads. -/
def IterOn {α : Type} (P : Program) (g : Nat) (lb : Array Value) (encs : α → Array Value) (Rd : List α → World → Prop) (xs : List α) : Prop :=
  ∀ (l : Nat) (J Jx : List α → World → Prop) (W : World), Grows J → Grows Jx → (∀ pre A, J pre A → Rd pre A) →
    (∀ pre x post W1, xs = pre ++ x :: post → J pre W1 → YieldAt Fence.wide 0 P l (encs x) W1 fun e W' =>
      (e = .returned (.bool true) ∧ J (pre ++ [x]) W') ∨ (e = .returned (.bool false) ∧ Jx (pre ++ [x]) W')) →
    J [] W →
    CallsIn Fence.wide 0 P g (#[.func (.yield l) #[] #[]] ++ lb) W fun e W' => (∃ v, e = .returned v) ∧ (J xs W' ∨ ∃ pre, pre <+: xs ∧ Jx pre W')

/-- How the body of a round may be left. -/
def iterPost {α : Type} (B : Nat) (I : List α → World → Prop) (Ix : Code → List α → World → Prop) (xs : List α) (W : World) : Exit → Act → World → Prop
  | .normal, _, W' => KeepsFrom B W W' ∧ I xs W'
  | .ret, _, W' => KeepsFrom B W W' ∧ Ix .ret xs W'
  | .exit id, _, W' => KeepsFrom B W W' ∧ Ix (.exit id) xs W'
  | .goto t, _, W' => KeepsFrom B W W' ∧ Ix (.goto t) xs W'
  | .panic _, _, _ => False
  | .outgrown, _, _ => False

/-- What the assignment to the loop's variables leaves: the body is walked from there. -/
def roundFrom {α : Type} (P : Program) (l : Nat) (body : Code) (B : Nat) (I : List α → World → Prop) (Ix : Code → List α → World → Prop) (pre : List α) (x : α) (W : World) (a' : Act) (W1 : World) : Prop :=
  KeepsFrom B W W1 ∧ I pre W1 ∧ ∀ W2, W1.grownBy W2 (some l) → W1.heap.size = W2.heap.size → I pre W2 → body.wpIn (Fence.wide.inRound l) 0 P (iterPost B I Ix (pre ++ [x]) W2) a' W2

theorem ownFrom_grows {β : Type} {B : Nat} {I : β → World → Prop} (h : OwnFrom B I) : Grows I := fun s A C hs hg => h s A C none hs hg (fun r e => by cases e)

theorem range_law {α : Type} {P : Program} {g : Operand} {ps : Array Tmp} {assign body : Code} {Q : Exit → Act → World → Prop} {a : Act} {w : World}
    {gf : Nat} {lb : Array Value} (hg : a.eval g = .func (.func gf) #[] lb) (eg : ∀ args w, (callFunc gf args).run P w = .ok (.enter gf args) w)
    {encs : α → Array Value} {Rd : List α → World → Prop} {xs : List α} (hit : IterOn P gf lb encs Rd xs) (hps : ∀ x, (encs x).size = ps.size)
    (I : List α → World → Prop) (Ix : Code → List α → World → Prop) (hI : OwnFrom w.heap.size I) (hIx : ∀ c, OwnFrom w.heap.size (Ix c)) (hRd : ∀ pre A, I pre A → Rd pre A) (h0 : I [] w)
    (hround : ∀ (l : Nat) (pre : List α) (x : α) (post : List α) (W : World), xs = pre ++ x :: post → w.heap.size < l → l < W.heap.size → I pre W →
      assign.wpIn (Fence.wide.inRound l) 0 P (Exit.then (roundFrom P l body w.heap.size I Ix pre x W) (fun _ _ _ => False)) { tmps := (ps.zip (encs x)).foldl (fun t (p, v) => t.setIfInBounds p v) a.tmps, defers := [] } W)
    (hdone : ∀ (D : Nat) (W : World), w.heap.size ≤ D → I xs W → W.heap[D]? = some (.deferred (some [])) → Q .normal { a with defers := { target := .collected D, args := #[] } :: a.defers } W)
    (hstop : ∀ (D : Nat) (c : Code) (pre : List α) (W : World), w.heap.size ≤ D → pre <+: xs → Ix c pre W → W.heap[D]? = some (.deferred (some [])) → c.wpIn Fence.wide 0 P Q { a with defers := { target := .collected D, args := #[] } :: a.defers } W) :
    (Code.rangeFunc g ps assign body).wpIn Fence.wide 0 P Q a w := by
  refine wpIn_rangeFunc ?_
  intro fn hfn
  obtain ⟨rec, hrec⟩ : ∃ rec : LoopState → Option Code → Loop, rec = fun st pe => { state := st, pending := pe, fn, tmps := a.tmps, params := ps, assign, body, defers := w.heap.size } := ⟨_, rfl⟩
  obtain ⟨W1, hW1⟩ : ∃ W1, (w.alloc (.deferred (some []))).alloc (.loop (rec .ready none)) = W1 := ⟨_, rfl⟩
  have hL1 : W1.heap[w.heap.size + 1]? = some (.loop (rec .ready none)) := by
    rw [← hW1]; have := World.alloc_heap_new (w.alloc (.deferred (some []))) (.loop (rec .ready none)); rwa [World.size_alloc] at this
  have hK1 : W1.heap[w.heap.size]? = some (.deferred (some [])) := by
    rw [← hW1]; exact (Below.heap_alloc _ _ _ (by simp)).trans (World.alloc_heap_new w _)
  have hI1 : I [] W1 := by rw [← hW1]; exact hI.alloc _ (hI.alloc _ h0)
  refine ⟨w.heap.size + 1, [{ target := .collected w.heap.size, args := #[] }], W1, { target := .fn (.func gf) lb, args := #[.func (.yield (w.heap.size + 1)) #[] #[]] }, W1, gf,
    #[.func (.yield (w.heap.size + 1)) #[] #[]] ++ lb, W1, ?_, ?_, fun _ _ => trivial, ?_, fun h => by simp [Fence.wide] at h, ?_⟩
  · rw [← hW1, hrec]; exact run_enterLoop_outer _ _ _ _ _
  · simp only [resolve, hg]
    simp [go_sem]
  · simp [invoke, go_sem, eg]
  · refine (hit (w.heap.size + 1)
      (fun pre W => I pre W ∧ W.heap[w.heap.size + 1]? = some (.loop (rec .ready none)) ∧ W.heap[w.heap.size]? = some (.deferred (some [])))
      (fun pre W => ∃ c, Ix c pre W ∧ W.heap[w.heap.size + 1]? = some (.loop (rec .done (some c))) ∧ W.heap[w.heap.size]? = some (.deferred (some [])))
      W1
      (fun s A B hs hb => ⟨ownFrom_grows hI s A B hs.1 hb, (hb.block _ (Array.getElem?_eq_some_iff.1 hs.2.1).1 (by simp)).trans hs.2.1, (hb.block _ (Array.getElem?_eq_some_iff.1 hs.2.2).1 (by simp)).trans hs.2.2⟩)
      (fun s A B ⟨c, hc, hl, hk⟩ hb => ⟨c, ownFrom_grows (hIx c) s A B hc hb, (hb.block _ (Array.getElem?_eq_some_iff.1 hl).1 (by simp)).trans hl, (hb.block _ (Array.getElem?_eq_some_iff.1 hk).1 (by simp)).trans hk⟩)
      (fun pre A h => hRd pre A h.1) ?_ ⟨hI1, hL1, hK1⟩).mono ?_
    · rintro pre x post W hxs ⟨hi, hl, hk⟩
      have hlt : w.heap.size + 1 < W.heap.size := (Array.getElem?_eq_some_iff.1 hl).1
      have hy := run_yield (P := P) (args := encs x) hl (by rw [hrec]; exact hps x)
      rw [hrec] at hy
      refine ⟨fn, _, assign, body, hy, roundIn_of_wpIn hfn (wpIn_mono (hround _ pre x post W hxs (by omega) hlt hi) ?_)⟩
      clear hy
      rintro e a' Wa hp
      cases e with
      | normal =>
        obtain ⟨hkf, hia, hbody⟩ := hp
        have hla := hkf.same _ _ (by omega) hl rfl
        have hka := hkf.same _ _ (Nat.le_refl _) hk rfl
        refine ⟨_, run_beginRound hla (by rw [hrec]), ?_⟩
        have hltA : w.heap.size + 1 < Wa.heap.size := (Array.getElem?_eq_some_iff.1 hla).1
        have hl2 : (Wa.putObj (w.heap.size + 1) (.loop { rec .ready none with state := .busy })).heap[w.heap.size + 1]? = some (.loop { rec .ready none with state := .busy }) := World.putObj_heap_same hltA
        have hk2 : (Wa.putObj (w.heap.size + 1) (.loop { rec .ready none with state := .busy })).heap[w.heap.size]? = some (.deferred (some [])) := (World.putObj_heap_other (by omega)).trans hka
        refine wpIn_mono (hbody _ (grownBy_putObj' Wa _ _) (by simp) (hI.putObj _ hia (by omega) hla rfl)) ?_
        have fin : ∀ (jump : Option Code) (W3 : World), KeepsFrom w.heap.size (Wa.putObj (w.heap.size + 1) (.loop { rec .ready none with state := .busy })) W3 →
            (Instr.endRound (w.heap.size + 1) jump).run P W3 = .ok (.bool jump.isNone) (W3.putObj (w.heap.size + 1) (.loop (rec (if jump.isNone then .ready else .done) jump))) ∧
            W3.heap[w.heap.size + 1]? = some (.loop { rec .ready none with state := .busy }) ∧
            (W3.putObj (w.heap.size + 1) (.loop (rec (if jump.isNone then .ready else .done) jump))).heap[w.heap.size + 1]? = some (.loop (rec (if jump.isNone then .ready else .done) jump)) ∧
            (W3.putObj (w.heap.size + 1) (.loop (rec (if jump.isNone then .ready else .done) jump))).heap[w.heap.size]? = some (.deferred (some [])) := fun jump W3 hk3 => by
          have hl3 := hk3.same _ _ (by omega) hl2 rfl
          have hr := run_endRound (P := P) jump hl3
          rw [hrec] at hr ⊢
          exact ⟨hr, by rw [hrec] at hl3; exact hl3, World.putObj_heap_same (Array.getElem?_eq_some_iff.1 hl3).1, (World.putObj_heap_other (by omega)).trans (hk3.same _ _ (Nat.le_refl _) hk2 rfl)⟩
        rintro e a3 W3 hp
        cases e with
        | normal =>
          obtain ⟨hk3, hi3⟩ := hp
          obtain ⟨hr, hl3, hl4, hk4⟩ := fin none W3 hk3
          exact ⟨_, _, hr, .inl ⟨rfl, hI.putObj _ hi3 (by omega) hl3 rfl, hl4, hk4⟩⟩
        | ret =>
          obtain ⟨hk3, hi3⟩ := hp
          obtain ⟨hr, hl3, hl4, hk4⟩ := fin (some .ret) W3 hk3
          exact ⟨_, _, hr, .inr ⟨rfl, .ret, (hIx _).putObj _ hi3 (by omega) hl3 rfl, hl4, hk4⟩⟩
        | exit id =>
          obtain ⟨hk3, hi3⟩ := hp
          obtain ⟨hr, hl3, hl4, hk4⟩ := fin (some (.exit id)) W3 hk3
          exact ⟨_, _, hr, .inr ⟨rfl, .exit id, (hIx _).putObj _ hi3 (by omega) hl3 rfl, hl4, hk4⟩⟩
        | goto t =>
          obtain ⟨hk3, hi3⟩ := hp
          obtain ⟨hr, hl3, hl4, hk4⟩ := fin (some (.goto t)) W3 hk3
          exact ⟨_, _, hr, .inr ⟨rfl, .goto t, (hIx _).putObj _ hi3 (by omega) hl3 rfl, hl4, hk4⟩⟩
        | panic ch => exact hp.elim
        | outgrown => exact hp.elim
      | exit id => exact hp.elim
      | goto l => exact hp.elim
      | ret => exact hp.elim
      | panic chain => exact hp.elim
      | outgrown => exact hp.elim
    · rintro e W2 ⟨⟨v, rfl⟩, (⟨hi, hl, hk⟩ | ⟨pre, hp, c, hi, hl, hk⟩)⟩
      · exact ⟨none, _, by have hr := run_endLoop (P := P) hl (by rw [hrec]; simp); rw [hrec] at hr; exact hr, hdone _ _ (Nat.le_refl _) (hI.putObj _ hi (by omega) hl rfl) ((World.putObj_heap_other (by omega)).trans hk)⟩
      · exact ⟨some c, _, by have hr := run_endLoop (P := P) hl (by rw [hrec]; simp); rw [hrec] at hr; exact hr, hstop _ c pre _ (Nat.le_refl _) hp ((hIx c).putObj _ hi (by omega) hl rfl) ((World.putObj_heap_other (by omega)).trans hk)⟩

/-- The same for the plain walk. -/
theorem range_lawP {α : Type} {P : Program} {g : Operand} {ps : Array Tmp} {assign body : Code} {Q : Exit → Act → World → Prop} {a : Act} {w : World}
    {gf : Nat} {lb : Array Value} (hg : a.eval g = .func (.func gf) #[] lb) (eg : ∀ args w, (callFunc gf args).run P w = .ok (.enter gf args) w)
    {encs : α → Array Value} {Rd : List α → World → Prop} {xs : List α} (hit : IterOn P gf lb encs Rd xs) (hps : ∀ x, (encs x).size = ps.size)
    (I : List α → World → Prop) (Ix : Code → List α → World → Prop) (hI : OwnFrom w.heap.size I) (hIx : ∀ c, OwnFrom w.heap.size (Ix c)) (hRd : ∀ pre A, I pre A → Rd pre A) (h0 : I [] w)
    (hround : ∀ (l : Nat) (pre : List α) (x : α) (post : List α) (W : World), xs = pre ++ x :: post → w.heap.size < l → l < W.heap.size → I pre W →
      assign.wpIn (Fence.wide.inRound l) 0 P (Exit.then (roundFrom P l body w.heap.size I Ix pre x W) (fun _ _ _ => False)) { tmps := (ps.zip (encs x)).foldl (fun t (p, v) => t.setIfInBounds p v) a.tmps, defers := [] } W)
    (hdone : ∀ (D : Nat) (W : World), w.heap.size ≤ D → I xs W → W.heap[D]? = some (.deferred (some [])) → Q .normal { a with defers := { target := .collected D, args := #[] } :: a.defers } W)
    (hstop : ∀ (D : Nat) (c : Code) (pre : List α) (W : World), w.heap.size ≤ D → pre <+: xs → Ix c pre W → W.heap[D]? = some (.deferred (some [])) → c.wp P Q { a with defers := { target := .collected D, args := #[] } :: a.defers } W) :
    (Code.rangeFunc g ps assign body).wp P Q a w :=
  wpIn_wide.1 (range_law hg eg hit hps I Ix hI hIx hRd h0 hround hdone (fun D c pre W h1 h2 h3 h4 => wpIn_wide.2 (hstop D c pre W h1 h2 h3 h4)))

theorem calls_marksP {P : Program} {f : FuncId} {fn : Func} {c : Code} {args : Array Value} {w : World} {R : Ending → World → Prop}
    (hf : P.funcs[f]? = some fn) (hb : fn.body = some c)
    (h : c.wp P (bodyPostM Fence.wide 0 P fn R) { tmps := args ++ Array.replicate (fn.ntmps - args.size) undef, defers := [] } w) : Calls P f args w R :=
  callsIn_wide.1 (callsIn_of_wp_marks hf hb trivial (wpIn_wide.2 h) rfl)

/-- A function that holds such a loop. -/
theorem calls_marks {P : Program} {f : FuncId} {fn : Func} {c : Code} {args : Array Value} {w : World} {R : Ending → World → Prop}
    (hf : P.funcs[f]? = some fn) (hb : fn.body = some c)
    (h : c.wpIn Fence.wide 0 P (bodyPostM Fence.wide 0 P fn R) { tmps := args ++ Array.replicate (fn.ntmps - args.size) undef, defers := [] } w) : Calls P f args w R :=
  callsIn_wide.1 (callsIn_of_wp_marks hf hb trivial h rfl)

/-- Its return. -/
theorem leaves_mark {P : Program} {fn : Func} {tmps : Array Value} {R : Ending → World → Prop} {D : Nat} {W : World} {v : Value}
    (hK : W.heap[D]? = some (.deferred (some []))) (hr : (results fn tmps).run P (W.putObj D (.deferred none)) = .ok v (W.putObj D (.deferred none))) (h : R (.returned v) (W.putObj D (.deferred none))) :
    LeavesInM Fence.wide 0 P fn tmps R [{ target := .collected D, args := #[] }] .returning W :=
  ⟨by simp, .inl ⟨_, _, rfl, run_takeDeferred hK, v, hr, h⟩⟩
/-- The return of a way that has not come to the loop. -/
theorem leaves_plain {P : Program} {fn : Func} {tmps : Array Value} {R : Ending → World → Prop} {W : World} {v : Value}
    (hr : (results fn tmps).run P W = .ok v W) (h : R (.returned v) W) : LeavesInM Fence.wide 0 P fn tmps R [] .returning W := ⟨v, hr, h⟩

/-- One result, two, in slots. -/
theorem leaves_mark1 {P : Program} {fn : Func} {tmps : Array Value} {R : Ending → World → Prop} {D : Nat} {W : World} {t : Tmp} (hf : fn.results = #[.tmp t])
    (hK : W.heap[D]? = some (.deferred (some []))) (h : R (.returned (tmps.getD t undef)) (W.putObj D (.deferred none))) :
    LeavesInM Fence.wide 0 P fn tmps R [{ target := .collected D, args := #[] }] .returning W := leaves_mark hK (results_tmp hf _ _ _) h
theorem leaves_mark2 {P : Program} {fn : Func} {tmps : Array Value} {R : Ending → World → Prop} {D : Nat} {W : World} {t u : Tmp} (hf : fn.results = #[.tmp t, .tmp u])
    (hK : W.heap[D]? = some (.deferred (some []))) (h : R (.returned (.tuple #[tmps.getD t undef, tmps.getD u undef])) (W.putObj D (.deferred none))) :
    LeavesInM Fence.wide 0 P fn tmps R [{ target := .collected D, args := #[] }] .returning W := leaves_mark hK (results_tmp2 hf _ _ _) h
theorem leaves_plain1 {P : Program} {fn : Func} {tmps : Array Value} {R : Ending → World → Prop} {W : World} {t : Tmp} (hf : fn.results = #[.tmp t])
    (h : R (.returned (tmps.getD t undef)) W) : LeavesInM Fence.wide 0 P fn tmps R [] .returning W := leaves_plain (results_tmp hf _ _ _) h
theorem leaves_plain2 {P : Program} {fn : Func} {tmps : Array Value} {R : Ending → World → Prop} {W : World} {t u : Tmp} (hf : fn.results = #[.tmp t, .tmp u])
    (h : R (.returned (.tuple #[tmps.getD t undef, tmps.getD u undef])) W) : LeavesInM Fence.wide 0 P fn tmps R [] .returning W := leaves_plain (results_tmp2 hf _ _ _) h

/-- A plain contract within a round, or within an iterator. -/
theorem in_round {P : Program} {f : FuncId} {args : Array Value} {w : World} {R : Ending → World → Prop} (l n : Nat) (h : Calls P f args w R) : CallsIn (Fence.wide.inRound l) n P f args w R := CallsIn.inRound l (callsIn_wide.2 h)
theorem in_wide {P : Program} {f : FuncId} {args : Array Value} {w : World} {R : Ending → World → Prop} (n : Nat) (h : Calls P f args w R) : CallsIn Fence.wide n P f args w R := callsIn_wide.2 h
@[go_sem] theorem wide_fn (f : FuncId) : Fence.wide.fn f = True := rfl
@[go_sem] theorem wide_depth : Fence.wide.depth = none := rfl
/-- A store into a row whose cells are known. -/
theorem row_set {W : World} {b : Nat} {c : Array Value} {t : TypeId} {fz : Nat × Nat} (h : W.heap[b]? = some (.cells c t fz)) (j : Nat) (v : Value) : (W.setCell ⟨b, j, none⟩ v).heap[b]? = some (.cells (c.setIfInBounds j v) t fz) := by
  obtain ⟨hlt, hk⟩ := Array.getElem?_eq_some_iff.1 h
  show (W.heap.modify b _)[b]? = _
  rw [Array.getElem?_eq_getElem (by rw [Array.size_modify]; exact hlt), Array.getElem_modify_self, hk]
  rfl
theorem row_other {W : World} {b b' : Nat} (hne : b' ≠ b) (j : Nat) (v : Value) : (W.setCell ⟨b, j, none⟩ v).heap[b']? = W.heap[b']? := Below.heap_setCell W ⟨b, j, none⟩ v b' hne
theorem row_frozen {W : World} {b : Nat} {c : Array Value} {t : TypeId} {lo hi : Nat} (h : W.heap[b]? = some (.cells c t (lo, hi))) (j : Nat) (hj : j < lo ∨ hi ≤ j) : W.frozen? ⟨b, j, none⟩ = false := by
  simp only [World.frozen?, h, Bool.and_eq_false_iff, decide_eq_false_iff_not]
  omega
/-- The world at a call gets a name. -/
theorem calls_named {P : Program} {f : FuncId} {args : Array Value} {W : World} {R : Ending → World → Prop} (h : ∀ W0, W0 = W → Calls P f args W0 R) : Calls P f args W R := h W rfl
theorem app_get (h : Array Obj) (xs : List Obj) (i : Nat) : (h ++ xs.toArray)[h.size + i]? = xs[i]? := by
  rw [Array.getElem?_append_right (by omega)]; simp
theorem blocks4 (w : World) (A B C D : Obj) : (((((w.alloc A).alloc B).alloc C).alloc D).drew.heap[w.heap.size]? = some A) ∧ (((((w.alloc A).alloc B).alloc C).alloc D).drew.heap[w.heap.size + 1]? = some B) ∧ (((((w.alloc A).alloc B).alloc C).alloc D).drew.heap[w.heap.size + 2]? = some C) ∧
    (((((w.alloc A).alloc B).alloc C).alloc D).drew.heap[w.heap.size + 3]? = some D) ∧ ((((w.alloc A).alloc B).alloc C).alloc D).drew.heap.size = w.heap.size + 4 ∧ Below w.heap.size w ((((w.alloc A).alloc B).alloc C).alloc D).drew := by
  have e : ((((w.alloc A).alloc B).alloc C).alloc D).drew.heap = w.heap ++ [A, B, C, D].toArray := by
    show (((w.heap.push A).push B).push C).push D = _
    rw [Array.push_eq_append, Array.push_eq_append, Array.push_eq_append, Array.push_eq_append, Array.append_assoc, Array.append_assoc, Array.append_assoc]
    rfl
  rw [e]
  exact ⟨app_get _ _ 0, app_get _ _ 1, app_get _ _ 2, app_get _ _ 3, by simp, (((((Below.refl _ w).alloc (Nat.le_refl _) _).alloc (by simp) _).alloc (by simp; omega) _).alloc (by simp; omega) _).drew⟩

/-- What a round or a loop abides: a box, 'Below', both. -/
theorem own_box {β : Type} (B b : Nat) (t : TypeId) (f : β → Value) : OwnFrom B (fun s W => Boxed W b t (f s)) := Own.from (boxed_own b t f) B
theorem own_below {β : Type} {n₀ B : Nat} {w₀ : World} (hn : n₀ ≤ w₀.heap.size) (hB : n₀ ≤ B) : OwnFrom B (fun (_ : β) W => Below n₀ w₀ W) := ownFrom_below hn hB
theorem own_cells {β : Type} (B b : Nat) (c : β → Array Value) (t : TypeId) (fz : Nat × Nat) : OwnFrom B (fun s W => W.heap[b]? = some (.cells (c s) t fz)) := by
  intro s X Y row hs hg hr
  refine (hg.block b (Array.getElem?_eq_some_iff.1 hs).1 (fun e => ?_)).trans hs
  obtain ⟨_, o, ho, hc⟩ := hr b e.symm
  rw [hs] at ho; cases ho; cases hc
theorem own_pure {β : Type} (B : Nat) (p : β → Prop) : OwnFrom B (fun s (_ : World) => p s) := ownFrom_pure B p
theorem own_false {α : Type} {B : Nat} (c : Code) : OwnFrom B ((fun _ _ _ => False : Code → List α → World → Prop) c) := fun _ _ _ _ hs _ _ => hs
/-- A box below behind a call that only makes memory. -/
theorem box_below {W W' : World} {B b : Nat} {t : TypeId} {v : Value} (h : Boxed W b t v) (hb : Below B W W') (hB : b < B) : Boxed W' b t v := (hb.block b hB).trans h
theorem keeps_below {B : Nat} {W W' : World} (hb : Below W.heap.size W W') : KeepsFrom B W W' := ⟨hb.size, fun k _ _ hk _ => (hb.block k (Array.getElem?_eq_some_iff.1 hk).1).trans hk⟩
theorem keeps_set {B : Nat} (W : World) (a : Addr) (v : Value) : KeepsFrom B W (W.setCell a v) := (KeepsOthers.setCell W a v).from B
theorem keeps_drew {B : Nat} {W W' : World} (h : KeepsFrom B W W') : KeepsFrom B W W'.drew := h.trans ((KeepsOthers.drew W').from B)
theorem box_eq {W : World} {b : Nat} {t : TypeId} {v v' : Value} (h : Boxed W b t v) (e : v = v') : Boxed W b t v' := e ▸ h
theorem box_drew {W : World} {b : Nat} {t : TypeId} {v : Value} (h : Boxed W b t v) : Boxed W.drew b t v := h
theorem below_up {B : Nat} {W W' : World} (h : Below B W W') {B' : Nat} (hB : B' ≤ B) : Below B' W W' := h.mono hB
/-- The block for deferred calls is shut: all below it lies as it lay. -/
theorem below_put {B : Nat} {w W : World} {D : Nat} {o : Obj} (h : Below B w W) (hB : B ≤ D) (hw : B ≤ w.heap.size) : Below B w (W.putObj D o) :=
  h.grown (grownBy_putObj' W D o) (Nat.le_trans hw h.size) (fun k e => by cases e; exact hB)
theorem box_put {W : World} {b D : Nat} {t : TypeId} {v : Value} {o : Obj} (h : Boxed W b t v) (hne : b ≠ D) : Boxed (W.putObj D o) b t v := (World.putObj_heap_other hne).trans h
end Ros
