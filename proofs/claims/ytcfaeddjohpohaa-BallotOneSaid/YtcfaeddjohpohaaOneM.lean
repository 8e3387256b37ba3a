/-
  One value is decided for: plain laws. Conditions: none.
-/
import Derived.Test.YtcfaeddjohpohaaBalM
import Derived.Test.YtcfaeddjohpohaaBalE
import Derived.Test.YtcfaeddjohpohaaBalF
namespace Ros
open Go
/-- A ballot's proposer. -/
structure Race where
  by_ : List Vt
  has : List Bool
  val : ByteArray
  fixed : Bool
def race0 : Race := ⟨[], List.replicate 16 false, ⟨#[]⟩, false⟩
def ownN (b : Nat) : ByteArray := ⟨#[111, 119, 110, UInt8.ofNat (64 + b)]⟩
theorem ownN_size (b : Nat) : (ownN b).size = 4 := rfl
def chosen (n : Nat) (V : Nat → Nat → Prop) (b : Nat) : Prop := ∃ m : List Nat, m.Nodup ∧ (∀ a ∈ m, a < n ∧ V b a) ∧ n < 2 * m.length
/-- v is what the acceptor a promised the ballot b with. -/
structure Prm (acc : List Vt) (R : Nat → Race) (V : Nat → Nat → Prop) (b a : Nat) (v : Vt) : Prop where
  at_ : ∃ x : Vt, acc[a]? = some x ∧ b ≤ x.p
  right : rightB v = true
  lt : v.b < b
  val : v.b = 0 ∨ (1 ≤ v.b ∧ v.b ≤ 40 ∧ (R v.b).fixed = true ∧ v.s = (R v.b).val)
  low : ∀ c, c < b → V c a → c ≤ v.b
  p40 : v.p ≤ 40
/-- What holds behind all acts; V: which acceptor has ever voted in which ballot. -/
structure Fair (n : Nat) (acc : List Vt) (R : Nat → Race) (V : Nat → Nat → Prop) : Prop where
  len : acc.length = n
  right : ∀ (a : Nat) (x : Vt), acc[a]? = some x → rightB x = true ∧ x.p ≤ 40
  vote : ∀ (a : Nat) (x : Vt), acc[a]? = some x → x.b = 0 ∨ (1 ≤ x.b ∧ x.b ≤ 40 ∧ (R x.b).fixed = true ∧ x.s = (R x.b).val ∧ V x.b a)
  old : ∀ b a, V b a → ∃ x : Vt, acc[a]? = some x ∧ b ≤ x.b
  vfix : ∀ b a, V b a → 1 ≤ b ∧ b ≤ 40 ∧ (R b).fixed = true
  by_ : ∀ b, 1 ≤ b → b ≤ 40 → ∃ q : List Nat, q.Nodup ∧ q.length = (R b).by_.length ∧ ∀ (i a : Nat) (v : Vt), q[i]? = some a → (R b).by_[i]? = some v → Prm acc R V b a v
  fix : ∀ b, 1 ≤ b → b ≤ 40 → (R b).fixed = true → n < 2 * (R b).by_.length ∧ (R b).val = (bestV ⟨0, 0, ownN b⟩ (R b).by_).s ∧ (R b).val.size ≤ 4000
theorem nodup_len : ∀ (n : Nat) (l : List Nat), l.Nodup → (∀ a ∈ l, a < n) → l.length ≤ n
  | 0, l, _, h => by
    cases l with
    | nil => exact Nat.le_refl _
    | cons a l => exact absurd (h a (by simp)) (by omega)
  | n + 1, l, hn, h => by
    by_cases hm : n ∈ l
    · have h1 := nodup_len n (l.erase n) (hn.erase n) (fun a ha => by
        have := (List.Nodup.mem_erase_iff hn).1 ha
        have h2 := h a this.2
        have := this.1
        omega)
      rw [List.length_erase_of_mem hm] at h1
      omega
    · have := nodup_len n l hn (fun a ha => by
        have h2 := h a ha
        have : a ≠ n := fun e => hm (e ▸ ha)
        omega)
      omega
theorem two_meet {n : Nat} {q m : List Nat} (hq : q.Nodup) (hm : m.Nodup) (hqn : ∀ a ∈ q, a < n) (hmn : ∀ a ∈ m, a < n) (h1 : n < 2 * q.length) (h2 : n < 2 * m.length) : ∃ a, a ∈ q ∧ a ∈ m := by
  refine Decidable.byContradiction fun hno => ?_
  have hd : (q ++ m).Nodup := List.nodup_append.2 ⟨hq, hm, fun a ha b hb e => hno ⟨a, ha, e ▸ hb⟩⟩
  have := nodup_len n (q ++ m) hd (fun a ha => by
    rcases List.mem_append.1 ha with h | h
    · exact hqn a h
    · exact hmn a h)
  rw [List.length_append] at this
  omega
theorem best_spec (a : Vt) : ∀ l : List Vt, (bestV a l = a ∨ bestV a l ∈ l) ∧ a.b ≤ (bestV a l).b ∧ ∀ v ∈ l, v.b ≤ (bestV a l).b := by
  intro l
  induction l generalizing a with
  | nil => exact ⟨.inl rfl, Nat.le_refl _, fun v h => by cases h⟩
  | cons x l ih =>
    have e : bestV a (x :: l) = bestV (if a.b < x.b then x else a) l := rfl
    rw [e]
    by_cases h : a.b < x.b
    · rw [if_pos h]
      obtain ⟨h1, h2, h3⟩ := ih x
      refine ⟨.inr ?_, by omega, fun v hv => ?_⟩
      · rcases h1 with h1 | h1
        · rw [h1]; simp
        · exact List.mem_cons_of_mem _ h1
      · rcases List.mem_cons.1 hv with rfl | hv
        · exact h2
        · exact h3 v hv
    · rw [if_neg h]
      obtain ⟨h1, h2, h3⟩ := ih a
      refine ⟨?_, h2, fun v hv => ?_⟩
      · rcases h1 with h1 | h1
        · exact .inl h1
        · exact .inr (List.mem_cons_of_mem _ h1)
      · rcases List.mem_cons.1 hv with rfl | hv
        · omega
        · exact h3 v hv
theorem Fair.q_lt {n : Nat} {acc : List Vt} {R : Nat → Race} {V : Nat → Nat → Prop} (G : Fair n acc R V) {b : Nat} {q : List Nat} (hl : q.length = (R b).by_.length) (hq : ∀ (i a : Nat) (v : Vt), q[i]? = some a → (R b).by_[i]? = some v → Prm acc R V b a v) : ∀ a ∈ q, a < n := by
  intro a ha
  obtain ⟨i, hi, rfl⟩ := List.getElem_of_mem ha
  obtain ⟨x, hx, _⟩ := (hq i q[i] ((R b).by_[i]'(by omega)) (List.getElem?_eq_getElem hi) (List.getElem?_eq_getElem (by omega))).at_
  rw [← G.len]
  exact (List.getElem?_eq_some_iff.1 hx).1
/-- Whatever is chosen in a ballot is proposed in all later ones. -/
theorem Fair.safe {n : Nat} {acc : List Vt} {R : Nat → Race} {V : Nat → Nat → Prop} (G : Fair n acc R V) : ∀ (b' : Nat), 1 ≤ b' → b' ≤ 40 → (R b').fixed = true → ∀ b, b < b' → chosen n V b → (R b').val = (R b).val := by
  intro b'
  induction b' using Nat.strongRecOn with
  | _ b' ih =>
    intro h1 h40 hf b hb hc
    obtain ⟨q, hqn, hql, hq⟩ := G.by_ b' h1 h40
    obtain ⟨m, hmn, hm, hml⟩ := hc
    obtain ⟨hby, hval, _⟩ := G.fix b' h1 h40 hf
    obtain ⟨a, haq, ham⟩ := two_meet hqn hmn (G.q_lt hql hq) (fun a ha => (hm a ha).1) (by omega) hml
    obtain ⟨i, hi, rfl⟩ := List.getElem_of_mem haq
    have P := hq i q[i] ((R b').by_[i]'(by omega)) (List.getElem?_eq_getElem hi) (List.getElem?_eq_getElem (by omega))
    have hlow := P.low b hb (hm _ ham).2
    obtain ⟨hb1, _, _⟩ := G.vfix b _ (hm _ ham).2
    obtain ⟨hbest, _, hmax⟩ := best_spec ⟨0, 0, ownN b'⟩ (R b').by_
    have hle := hmax _ (List.getElem_mem (show i < (R b').by_.length by omega))
    generalize bestV ⟨0, 0, ownN b'⟩ (R b').by_ = x at *
    have hxm : x ∈ (R b').by_ := by
      rcases hbest with e | e
      · rw [e] at hle
        have : (R b').by_[i].b ≤ 0 := hle
        omega
      · exact e
    obtain ⟨j, hj, rfl⟩ := List.getElem_of_mem hxm
    have P2 := hq j (q[j]'(by omega)) ((R b').by_[j]) (List.getElem?_eq_getElem (by omega)) (List.getElem?_eq_getElem hj)
    have hlt := P2.lt
    rcases P2.val with e | ⟨e1, e2, e3, e4⟩
    · omega
    · rw [hval, e4]
      by_cases hbb : (R b').by_[j].b = b
      · rw [hbb]
      · exact ih _ hlt e1 e2 e3 b (by omega) ⟨m, hmn, hm, hml⟩
def updR (R : Nat → Race) (b : Nat) (r : Race) : Nat → Race := fun c => if c = b then r else R c
theorem updR_at (R : Nat → Race) (b : Nat) (r : Race) : updR R b r b = r := if_pos rfl
theorem updR_ne (R : Nat → Race) {b c : Nat} (r : Race) (h : c ≠ b) : updR R b r c = R c := if_neg h
/-- A promise: the acceptors behind it. -/
theorem set_get {acc : List Vt} {a : Nat} {x z : Vt} (hx : acc[a]? = some x) (c : Nat) (y : Vt) (hy : (acc.set a z)[c]? = some y) : (c = a ∧ y = z) ∨ (c ≠ a ∧ acc[c]? = some y) := by
  have hal : a < acc.length := (List.getElem?_eq_some_iff.1 hx).1
  by_cases e : c = a
  · subst e
    rw [List.getElem?_set_self hal] at hy
    exact .inl ⟨rfl, (Option.some.inj hy).symm⟩
  · rw [List.getElem?_set_ne (Ne.symm e)] at hy
    exact .inr ⟨e, hy⟩
theorem set_put {acc : List Vt} {a : Nat} {x z : Vt} (hx : acc[a]? = some x) (hp : x.p ≤ z.p) (hb : x.b ≤ z.b) (c : Nat) (y : Vt) (hy : acc[c]? = some y) : ∃ w, (acc.set a z)[c]? = some w ∧ y.b ≤ w.b ∧ y.p ≤ w.p := by
  have hal : a < acc.length := (List.getElem?_eq_some_iff.1 hx).1
  by_cases e : c = a
  · subst e
    rw [hx] at hy
    cases hy
    exact ⟨_, List.getElem?_set_self hal, hb, hp⟩
  · exact ⟨y, by rw [List.getElem?_set_ne (Ne.symm e)]; exact hy, Nat.le_refl _, Nat.le_refl _⟩
theorem Prm.set {acc : List Vt} {R : Nat → Race} {V : Nat → Nat → Prop} {a b d : Nat} {x z v : Vt} (P : Prm acc R V b d v) (hx : acc[a]? = some x) (hp : x.p ≤ z.p) (hb : x.b ≤ z.b) : Prm (acc.set a z) R V b d v := by
  obtain ⟨y, hy, hle⟩ := P.at_
  obtain ⟨w, hw, _, hwp⟩ := set_put hx hp hb d y hy
  exact ⟨⟨w, hw, by omega⟩, P.right, P.lt, P.val, P.low, P.p40⟩
theorem Fair.promise {n : Nat} {acc : List Vt} {R : Nat → Race} {V : Nat → Nat → Prop} (G : Fair n acc R V) {a b : Nat} {x : Vt} (hx : acc[a]? = some x) (h40 : b ≤ 40) (hp : x.p < b) : Fair n (acc.set a ⟨b, x.b, x.s⟩) R V := by
  have hle : x.p ≤ (⟨b, x.b, x.s⟩ : Vt).p := by show x.p ≤ b; omega
  refine ⟨by rw [List.length_set]; exact G.len, ?_, ?_, ?_, G.vfix, ?_, G.fix⟩
  · intro c y hy
    rcases set_get hx c y hy with ⟨rfl, rfl⟩ | ⟨_, h⟩
    · exact ⟨right_prom (G.right _ _ hx).1 hp, h40⟩
    · exact G.right c y h
  · intro c y hy
    rcases set_get hx c y hy with ⟨rfl, rfl⟩ | ⟨_, h⟩
    · have h := G.vote _ x hx
      exact h
    · exact G.vote c y h
  · intro c d hv
    obtain ⟨y, hy, hle2⟩ := G.old c d hv
    obtain ⟨z, hz, hzb, _⟩ := set_put hx hle (Nat.le_refl x.b) d y hy
    exact ⟨z, hz, by omega⟩
  · intro c hc1 hc40
    obtain ⟨q, hqn, hql, hq⟩ := G.by_ c hc1 hc40
    exact ⟨q, hqn, hql, fun i d v hi hv => (hq i d v hi hv).set hx hle (Nat.le_refl x.b)⟩
/-- What is fixed, and for which value, is as it was: so are the promises. -/
theorem Prm.re {acc : List Vt} {R R' : Nat → Race} {V : Nat → Nat → Prop} {b d : Nat} {v : Vt} (P : Prm acc R V b d v) (h : ∀ c, (R c).fixed = true → (R' c).fixed = true ∧ (R' c).val = (R c).val) : Prm acc R' V b d v :=
  ⟨P.at_, P.right, P.lt, by
    rcases P.val with e | ⟨e1, e2, e3, e4⟩
    · exact .inl e
    · exact .inr ⟨e1, e2, (h _ e3).1, by rw [(h _ e3).2]; exact e4⟩, P.low, P.p40⟩
theorem Fair.counted {n : Nat} {acc : List Vt} {R : Nat → Race} {V : Nat → Nat → Prop} (G : Fair n acc R V) {a b : Nat} {x : Vt} (has' : List Bool) (hx : acc[a]? = some x) (h40 : b ≤ 40) (hp : x.p < b) (hf : (R b).fixed = false) :
    Fair n (acc.set a ⟨b, x.b, x.s⟩) (updR R b ⟨(R b).by_ ++ [⟨b, x.b, x.s⟩], has', (R b).val, false⟩) V := by
  have hal : a < acc.length := (List.getElem?_eq_some_iff.1 hx).1
  have hle : x.p ≤ (⟨b, x.b, x.s⟩ : Vt).p := by show x.p ≤ b; omega
  have G' := G.promise hx h40 hp
  have hrx := (G.right _ _ hx).1
  have hxb : x.b ≤ x.p := ((rightB_iff x).1 hrx).1
  have fx : ∀ c, (R c).fixed = true → (updR R b ⟨(R b).by_ ++ [⟨b, x.b, x.s⟩], has', (R b).val, false⟩ c).fixed = true ∧ (updR R b ⟨(R b).by_ ++ [⟨b, x.b, x.s⟩], has', (R b).val, false⟩ c).val = (R c).val := by
    intro c hc
    have e : c ≠ b := fun e => by rw [e, hf] at hc; cases hc
    rw [updR_ne _ _ e]
    exact ⟨hc, rfl⟩
  refine ⟨G'.len, G'.right, ?_, G'.old, ?_, ?_, ?_⟩
  · intro c y hy
    rcases G'.vote c y hy with e | ⟨e1, e2, e3, e4, e5⟩
    · exact .inl e
    · exact .inr ⟨e1, e2, (fx _ e3).1, by rw [(fx _ e3).2]; exact e4, e5⟩
  · intro c d hv
    obtain ⟨e1, e2, e3⟩ := G'.vfix c d hv
    exact ⟨e1, e2, (fx _ e3).1⟩
  · intro c hc1 hc40
    obtain ⟨q, hqn, hql, hq⟩ := G.by_ c hc1 hc40
    by_cases e : c = b
    · subst e
      refine ⟨q ++ [a], ?_, by rw [updR_at]; simp [hql], ?_⟩
      · refine List.nodup_append.2 ⟨hqn, by simp, fun d hd d' hd' e => ?_⟩
        rw [List.mem_singleton] at hd'
        subst hd'
        subst e
        obtain ⟨i, hi, hia⟩ := List.getElem_of_mem hd
        obtain ⟨y, hy, hyp⟩ := (hq i q[i] ((R c).by_[i]'(by omega)) (List.getElem?_eq_getElem hi) (List.getElem?_eq_getElem (by omega))).at_
        rw [hia, hx] at hy
        cases hy
        omega
      · intro i d v hi hv
        rw [updR_at] at hv
        by_cases hil : i < q.length
        · rw [List.getElem?_append_left hil] at hi
          rw [show ((⟨(R c).by_ ++ [⟨c, x.b, x.s⟩], has', (R c).val, false⟩ : Race)).by_ = (R c).by_ ++ [⟨c, x.b, x.s⟩] from rfl, List.getElem?_append_left (by omega)] at hv
          exact ((hq i d v hi hv).set hx hle (Nat.le_refl x.b)).re fx
        · have hie : i = q.length := by
            have := (List.getElem?_eq_some_iff.1 hi).1
            rw [List.length_append, List.length_singleton] at this
            omega
          subst hie
          rw [List.getElem?_append_right (Nat.le_refl _), Nat.sub_self] at hi
          rw [show ((⟨(R c).by_ ++ [⟨c, x.b, x.s⟩], has', (R c).val, false⟩ : Race)).by_ = (R c).by_ ++ [⟨c, x.b, x.s⟩] from rfl, List.getElem?_append_right (by omega), hql, Nat.sub_self] at hv
          cases hi
          cases hv
          refine ⟨⟨_, List.getElem?_set_self hal, Nat.le_refl _⟩, right_prom hrx hp, by show x.b < c; omega, ?_, ?_, h40⟩
          · rcases G.vote _ _ hx with e | ⟨e1, e2, e3, e4, _⟩
            · exact .inl e
            · exact .inr ⟨e1, e2, (fx _ e3).1, by rw [(fx _ e3).2]; exact e4⟩
          · intro c' hc' hV
            obtain ⟨y, hy, hle2⟩ := G.old c' _ hV
            rw [hx] at hy
            cases hy
            exact hle2
    · rw [updR_ne _ _ e]
      exact ⟨q, hqn, hql, fun i d v hi hv => ((hq i d v hi hv).set hx hle (Nat.le_refl x.b)).re fx⟩
  · intro c hc1 hc40 hcf
    by_cases e : c = b
    · subst e; rw [updR_at] at hcf; cases hcf
    · rw [updR_ne _ _ e] at hcf ⊢
      exact G.fix c hc1 hc40 hcf
/-- What a ballot's proposer may propose. -/
theorem Fair.prop {n : Nat} {acc : List Vt} {R : Nat → Race} {V : Nat → Nat → Prop} (G : Fair n acc R V) {b : Nat} (hn : 1 ≤ n) (hn16 : n ≤ 16) (h1 : 1 ≤ b) (h40 : b ≤ 40) (hq : n < 2 * (R b).by_.length) :
    mprop (n : Int) (R b).by_ (ownN b) = ((bestV ⟨0, 0, ownN b⟩ (R b).by_).s, 0) ∧ (bestV ⟨0, 0, ownN b⟩ (R b).by_).s.size ≤ 4000 ∧ (R b).by_.length ≤ n ∧ (R b).by_.all rightB = true := by
  obtain ⟨q, hqn, hql, hqp⟩ := G.by_ b h1 h40
  have hlen := nodup_len n q hqn (G.q_lt hql hqp)
  have hall : ∀ v ∈ (R b).by_, rightB v = true := fun v hv => by
    obtain ⟨i, hi, rfl⟩ := List.getElem_of_mem hv
    exact (hqp i (q[i]'(by omega)) _ (List.getElem?_eq_getElem (by omega)) (List.getElem?_eq_getElem hi)).right
  have hall2 : (R b).by_.all rightB = true := List.all_eq_true.2 hall
  refine ⟨mprop_yes ⟨by omega, by omega, by omega, by omega⟩ ⟨hall2, by rw [ownN_size]; omega⟩, ?_, by omega, hall2⟩
  obtain ⟨hb, _, _⟩ := best_spec ⟨0, 0, ownN b⟩ (R b).by_
  rcases hb with e | e
  · rw [e]; show (ownN b).size ≤ 4000; rw [ownN_size]; omega
  · exact ((rightB_iff _).1 (hall _ e)).2.2
theorem Fair.fixed_ {n : Nat} {acc : List Vt} {R : Nat → Race} {V : Nat → Nat → Prop} (G : Fair n acc R V) {b : Nat} (hn : 1 ≤ n) (hn16 : n ≤ 16) (h1 : 1 ≤ b) (h40 : b ≤ 40) (hq : n < 2 * (R b).by_.length) (hf : (R b).fixed = false) :
    Fair n acc (updR R b ⟨(R b).by_, (R b).has, (bestV ⟨0, 0, ownN b⟩ (R b).by_).s, true⟩) V := by
  have hp := G.prop hn hn16 h1 h40 hq
  have fx : ∀ c, (R c).fixed = true → (updR R b ⟨(R b).by_, (R b).has, (bestV ⟨0, 0, ownN b⟩ (R b).by_).s, true⟩ c).fixed = true ∧ (updR R b ⟨(R b).by_, (R b).has, (bestV ⟨0, 0, ownN b⟩ (R b).by_).s, true⟩ c).val = (R c).val := by
    intro c hc
    have e : c ≠ b := fun e => by rw [e, hf] at hc; cases hc
    rw [updR_ne _ _ e]
    exact ⟨hc, rfl⟩
  have fb : ∀ c, (updR R b ⟨(R b).by_, (R b).has, (bestV ⟨0, 0, ownN b⟩ (R b).by_).s, true⟩ c).by_ = (R c).by_ := by
    intro c
    by_cases e : c = b
    · subst e; rw [updR_at]
    · rw [updR_ne _ _ e]
  refine ⟨G.len, G.right, ?_, G.old, ?_, ?_, ?_⟩
  · intro c y hy
    rcases G.vote c y hy with e | ⟨e1, e2, e3, e4, e5⟩
    · exact .inl e
    · exact .inr ⟨e1, e2, (fx _ e3).1, by rw [(fx _ e3).2]; exact e4, e5⟩
  · intro c d hv
    obtain ⟨e1, e2, e3⟩ := G.vfix c d hv
    exact ⟨e1, e2, (fx _ e3).1⟩
  · intro c hc1 hc40
    obtain ⟨q, hqn, hql, hq⟩ := G.by_ c hc1 hc40
    rw [fb]
    exact ⟨q, hqn, hql, fun i d v hi hv => (hq i d v hi hv).re fx⟩
  · intro c hc1 hc40 hcf
    by_cases e : c = b
    · subst e; rw [updR_at]; exact ⟨hq, rfl, hp.2.1⟩
    · rw [updR_ne _ _ e] at hcf ⊢
      exact G.fix c hc1 hc40 hcf
/-- A vote. -/
theorem Fair.cast_ {n : Nat} {acc : List Vt} {R : Nat → Race} {V : Nat → Nat → Prop} (G : Fair n acc R V) {a b : Nat} {x : Vt} (hx : acc[a]? = some x) (h1 : 1 ≤ b) (h40 : b ≤ 40) (hp : x.p ≤ b) (hf : (R b).fixed = true) :
    Fair n (acc.set a ⟨b, b, (R b).val⟩) R (fun c d => V c d ∨ (c = b ∧ d = a)) := by
  have hal : a < acc.length := (List.getElem?_eq_some_iff.1 hx).1
  have hrx := (G.right _ _ hx).1
  have hxb : x.b ≤ x.p := ((rightB_iff x).1 hrx).1
  have hle : x.p ≤ (⟨b, b, (R b).val⟩ : Vt).p := hp
  have hlb : x.b ≤ (⟨b, b, (R b).val⟩ : Vt).b := by show x.b ≤ b; omega
  obtain ⟨_, _, hsz⟩ := G.fix b h1 h40 hf
  refine ⟨by rw [List.length_set]; exact G.len, ?_, ?_, ?_, ?_, ?_, G.fix⟩
  · intro c y hy
    rcases set_get hx c y hy with ⟨rfl, rfl⟩ | ⟨_, h⟩
    · exact ⟨right_cast h1 hsz, h40⟩
    · exact G.right c y h
  · intro c y hy
    rcases set_get hx c y hy with ⟨rfl, rfl⟩ | ⟨_, h⟩
    · exact .inr ⟨h1, h40, hf, rfl, .inr ⟨rfl, rfl⟩⟩
    · rcases G.vote c y h with e | ⟨e1, e2, e3, e4, e5⟩
      · exact .inl e
      · exact .inr ⟨e1, e2, e3, e4, .inl e5⟩
  · rintro c d (hv | ⟨rfl, rfl⟩)
    · obtain ⟨y, hy, hle2⟩ := G.old c d hv
      obtain ⟨z, hz, hzb, _⟩ := set_put hx hle hlb d y hy
      exact ⟨z, hz, by omega⟩
    · exact ⟨_, List.getElem?_set_self hal, Nat.le_refl _⟩
  · rintro c d (hv | ⟨rfl, rfl⟩)
    · exact G.vfix c d hv
    · exact ⟨h1, h40, hf⟩
  · intro c hc1 hc40
    obtain ⟨q, hqn, hql, hq⟩ := G.by_ c hc1 hc40
    refine ⟨q, hqn, hql, fun i d v hi hv => ?_⟩
    have P := hq i d v hi hv
    have P2 := P.set hx hle hlb
    refine ⟨P2.at_, P2.right, P2.lt, P2.val, ?_, P2.p40⟩
    rintro c' hc' (hV | ⟨rfl, rfl⟩)
    · exact P.low c' hc' hV
    · obtain ⟨y, hy, hyp⟩ := P.at_
      rw [hx] at hy
      cases hy
      omega
theorem chosen.mono {n : Nat} {V V' : Nat → Nat → Prop} {b : Nat} (h : chosen n V b) (hv : ∀ a, V b a → V' b a) : chosen n V' b := by
  obtain ⟨m, h1, h2, h3⟩ := h
  exact ⟨m, h1, fun a ha => ⟨(h2 a ha).1, hv a (h2 a ha).2⟩, h3⟩
/-- What is decided for is chosen. -/
theorem Fair.decided {n : Nat} {acc : List Vt} {R : Nat → Race} {V : Nat → Nat → Prop} (G : Fair n acc R V) {v : Vt} (hv : v ∈ acc) (hm : majB acc v = true) : 1 ≤ v.b ∧ v.b ≤ 40 ∧ (R v.b).fixed = true ∧ v.s = (R v.b).val ∧ chosen n V v.b := by
  obtain ⟨h0, hc⟩ := majB_iff.1 hm
  obtain ⟨i, hi, rfl⟩ := List.getElem_of_mem hv
  rcases G.vote i acc[i] (List.getElem?_eq_getElem hi) with e | ⟨e1, e2, e3, e4, _⟩
  · omega
  refine ⟨e1, e2, e3, e4, (List.range acc.length).filter (fun a => decide ((acc.getD a vt0).b = acc[i].b) && decide ((acc.getD a vt0).s = acc[i].s)), List.nodup_range.filter _, ?_, ?_⟩
  · intro a ha
    rw [List.mem_filter, List.mem_range] at ha
    obtain ⟨ha1, ha2⟩ := ha
    have hg : acc[a]? = some acc[a] := List.getElem?_eq_getElem ha1
    rw [List.getD_eq_getElem?_getD, hg] at ha2
    simp only [Option.getD_some, Bool.and_eq_true, decide_eq_true_eq] at ha2
    refine ⟨by rw [← G.len]; exact ha1, ?_⟩
    rcases G.vote a _ hg with e | ⟨_, _, _, _, e5⟩
    · omega
    · rw [← ha2.1]; exact e5
  · have hcnt : cntV acc[i].b acc[i].s acc = ((List.range acc.length).filter (fun a => decide ((acc.getD a vt0).b = acc[i].b) && decide ((acc.getD a vt0).s = acc[i].s))).length := by
      have hacc : acc = (List.range acc.length).map (fun a => acc.getD a vt0) := by
        apply List.ext_getElem
        · simp
        · intro j h1 h2
          simp [List.getD_eq_getElem?_getD, h1]
      rw [← List.countP_eq_length_filter]
      unfold cntV
      generalize acc[i].b = vb at *
      generalize acc[i].s = vs at *
      conv => lhs; rw [hacc]
      rw [List.countP_map]
      rfl
    rw [← hcnt, ← G.len]
    exact hc
/-- What holds behind all acts, with what has been decided for. -/
def One (n : Nat) (acc : List Vt) (R : Nat → Race) (first : ByteArray) (some_ : Bool) : Prop :=
  ∃ V, Fair n acc R V ∧ (some_ = true → ∃ b, 1 ≤ b ∧ b ≤ 40 ∧ (R b).fixed = true ∧ (R b).val = first ∧ chosen n V b)
theorem one_start (n : Nat) : One n (List.replicate n vt0) (fun _ => race0) ⟨#[]⟩ false := by
  refine ⟨fun _ _ => False, ⟨List.length_replicate, ?_, ?_, fun _ _ h => h.elim, fun _ _ h => h.elim, ?_, ?_⟩, fun h => by cases h⟩
  · intro a x hx
    have e : x = vt0 := by
      obtain ⟨h, e⟩ := List.getElem?_eq_some_iff.1 hx
      rw [List.getElem_replicate] at e
      exact e.symm
    subst e
    exact ⟨right_vt0, Nat.zero_le _⟩
  · intro a x hx
    have e : x = vt0 := by
      obtain ⟨h, e⟩ := List.getElem?_eq_some_iff.1 hx
      rw [List.getElem_replicate] at e
      exact e.symm
    subst e
    exact .inl rfl
  · intro b _ _
    exact ⟨[], List.nodup_nil, rfl, fun i a v hi => by cases hi⟩
  · intro b _ _ h
    cases h
theorem One.promise {n : Nat} {acc : List Vt} {R : Nat → Race} {first : ByteArray} {so : Bool} (h : One n acc R first so) {a b : Nat} {x : Vt} (hx : acc[a]? = some x) (h40 : b ≤ 40) (hp : x.p < b) : One n (acc.set a ⟨b, x.b, x.s⟩) R first so := by
  obtain ⟨V, G, hs⟩ := h
  exact ⟨V, G.promise hx h40 hp, hs⟩
theorem One.re {n : Nat} {V V' : Nat → Nat → Prop} {R R' : Nat → Race} {first : ByteArray} (h : ∃ b, 1 ≤ b ∧ b ≤ 40 ∧ (R b).fixed = true ∧ (R b).val = first ∧ chosen n V b) (hr : ∀ c, (R c).fixed = true → (R' c).fixed = true ∧ (R' c).val = (R c).val) (hv : ∀ b a, V b a → V' b a) :
    ∃ b, 1 ≤ b ∧ b ≤ 40 ∧ (R' b).fixed = true ∧ (R' b).val = first ∧ chosen n V' b := by
  obtain ⟨b, h1, h2, h3, h4, h5⟩ := h
  exact ⟨b, h1, h2, (hr b h3).1, by rw [(hr b h3).2]; exact h4, h5.mono (hv b)⟩
theorem One.counted {n : Nat} {acc : List Vt} {R : Nat → Race} {first : ByteArray} {so : Bool} (h : One n acc R first so) {a b : Nat} {x : Vt} (has' : List Bool) (hx : acc[a]? = some x) (h40 : b ≤ 40) (hp : x.p < b) (hf : (R b).fixed = false) :
    One n (acc.set a ⟨b, x.b, x.s⟩) (updR R b ⟨(R b).by_ ++ [⟨b, x.b, x.s⟩], has', (R b).val, false⟩) first so := by
  obtain ⟨V, G, hs⟩ := h
  refine ⟨V, G.counted has' hx h40 hp hf, fun e => One.re (hs e) (fun c hc => ?_) (fun _ _ h => h)⟩
  have e : c ≠ b := fun e => by rw [e, hf] at hc; cases hc
  rw [updR_ne _ _ e]
  exact ⟨hc, rfl⟩
theorem One.prop {n : Nat} {acc : List Vt} {R : Nat → Race} {first : ByteArray} {so : Bool} (h : One n acc R first so) {b : Nat} (hn : 1 ≤ n) (hn16 : n ≤ 16) (h1 : 1 ≤ b) (h40 : b ≤ 40) (hq : n < 2 * (R b).by_.length) :
    mprop (n : Int) (R b).by_ (ownN b) = ((bestV ⟨0, 0, ownN b⟩ (R b).by_).s, 0) ∧ (bestV ⟨0, 0, ownN b⟩ (R b).by_).s.size ≤ 4000 := by
  obtain ⟨V, G, hs⟩ := h
  exact ⟨(G.prop hn hn16 h1 h40 hq).1, (G.prop hn hn16 h1 h40 hq).2.1⟩
theorem One.byok {n : Nat} {acc : List Vt} {R : Nat → Race} {first : ByteArray} {so : Bool} (h : One n acc R first so) {b : Nat} (h1 : 1 ≤ b) (h40 : b ≤ 40) : ∀ v ∈ (R b).by_, v.ok := by
  obtain ⟨V, G, hs⟩ := h
  obtain ⟨q, hqn, hql, hqp⟩ := G.by_ b h1 h40
  intro v hv
  obtain ⟨i, hi, rfl⟩ := List.getElem_of_mem hv
  have P := hqp i (q[i]'(by omega)) _ (List.getElem?_eq_getElem (by omega)) (List.getElem?_eq_getElem hi)
  obtain ⟨h3, _, h4⟩ := (rightB_iff _).1 P.right
  have := P.p40
  exact ⟨by omega, by omega, by omega⟩
theorem One.fixed_ {n : Nat} {acc : List Vt} {R : Nat → Race} {first : ByteArray} {so : Bool} (h : One n acc R first so) {b : Nat} (hn : 1 ≤ n) (hn16 : n ≤ 16) (h1 : 1 ≤ b) (h40 : b ≤ 40) (hq : n < 2 * (R b).by_.length) (hf : (R b).fixed = false) :
    One n acc (updR R b ⟨(R b).by_, (R b).has, (bestV ⟨0, 0, ownN b⟩ (R b).by_).s, true⟩) first so := by
  obtain ⟨V, G, hs⟩ := h
  refine ⟨V, G.fixed_ hn hn16 h1 h40 hq hf, fun e => One.re (hs e) (fun c hc => ?_) (fun _ _ h => h)⟩
  have e : c ≠ b := fun e => by rw [e, hf] at hc; cases hc
  rw [updR_ne _ _ e]
  exact ⟨hc, rfl⟩
theorem One.cast_ {n : Nat} {acc : List Vt} {R : Nat → Race} {first : ByteArray} {so : Bool} (h : One n acc R first so) {a b : Nat} {x : Vt} (hx : acc[a]? = some x) (h1 : 1 ≤ b) (h40 : b ≤ 40) (hp : x.p ≤ b) (hf : (R b).fixed = true) :
    One n (acc.set a ⟨b, b, (R b).val⟩) R first so := by
  obtain ⟨V, G, hs⟩ := h
  exact ⟨_, G.cast_ hx h1 h40 hp hf, fun e => One.re (hs e) (fun c hc => ⟨hc, rfl⟩) (fun _ _ h => .inl h)⟩
theorem One.right {n : Nat} {acc : List Vt} {R : Nat → Race} {first : ByteArray} {so : Bool} (h : One n acc R first so) : acc.length = n ∧ acc.all rightB = true ∧ ∀ (a : Nat) (x : Vt), acc[a]? = some x → rightB x = true ∧ x.p ≤ 40 := by
  obtain ⟨V, G, hs⟩ := h
  refine ⟨G.len, List.all_eq_true.2 fun x hx => ?_, G.right⟩
  obtain ⟨i, hi, rfl⟩ := List.getElem_of_mem hx
  exact (G.right i _ (List.getElem?_eq_getElem hi)).1
theorem One.val {n : Nat} {acc : List Vt} {R : Nat → Race} {first : ByteArray} {so : Bool} (h : One n acc R first so) {b : Nat} (h1 : 1 ≤ b) (h40 : b ≤ 40) (hf : (R b).fixed = true) : (R b).val.size ≤ 4000 := by
  obtain ⟨V, G, hs⟩ := h
  exact (G.fix b h1 h40 hf).2.2
/-- What is decided: nothing, or the one value. -/
theorem One.decided {n : Nat} {acc : List Vt} {R : Nat → Race} {first : ByteArray} {so : Bool} (h : One n acc R first so) (hn : 1 ≤ n) (hn16 : n ≤ 16) :
    mdec acc = ((⟨#[]⟩, false), 0) ∨ ∃ s, mdec acc = ((s, true), 0) ∧ (so = true → s = first) ∧ One n acc R s true := by
  obtain ⟨hl, hall, _⟩ := h.right
  obtain ⟨V, G, hs⟩ := h
  unfold mdec
  rw [if_pos ⟨by omega, by omega⟩, if_pos hall]
  cases hf : acc.find? (majB acc) with
  | none => exact .inl rfl
  | some v =>
    have hv := List.mem_of_find?_eq_some hf
    have hm := List.find?_some hf
    obtain ⟨e1, e2, e3, e4, e5⟩ := G.decided hv hm
    refine .inr ⟨v.s, rfl, fun hso => ?_, V, G, fun _ => ⟨v.b, e1, e2, e3, e4.symm, e5⟩⟩
    obtain ⟨b, h1, h2, h3, h4, h5⟩ := hs hso
    rw [e4, ← h4]
    rcases Nat.lt_trichotomy b v.b with h | h | h
    · exact G.safe v.b e1 e2 e3 b h h5
    · rw [h]
    · exact (G.safe b h1 h2 h3 v.b h e5).symm
end Ros
