/-
  Own framework, part 15: a region that draws its order: what only reads may be taken first, if what it read still stands behind all that may come ahead of it.
-/
import Derived.Test.YtonohiifmepjfaaDoorEv14
namespace Go.Proofs.YtonohiifmepjfaaDoor.Ev
open Go Go.RowKit

def exempt (ops : Array Oper) (L : Array Bool) (i : Nat) : Prop :=
  ∃ j oj, ops[j]? = some oj ∧ L.getD j true = true ∧ j < ops.size ∧ isQuiet oj.op = false ∧ isBefore i oj.after.toList = true

def Sx (ops : Array Oper) (rs : List (Nat × (World → Prop))) (L : Array Bool) (W : World) : Prop := ∀ r ∈ rs, exempt ops L r.1 ∨ r.2 W

section
variable {F : Fence} {n : Nat} {P : Program} {ops : Array Oper} {Q : Exit → Act → World → Prop}

def gm (F : Fence) (n : Nat) (P : Program) (ops : Array Oper) (Q : Exit → Act → World → Prop) (rs : List (Nat × (World → Prop))) : Nat → Array Bool → Act → World → Prop
  | 0, L, a, w => Sx ops rs L w ∧ Region.ready .any ops L = [] ∧ Q .normal a w
  | fuel + 1, L, a, w => Sx ops rs L w ∧ (Region.ready .any ops L = [] → Q .normal a w) ∧
    ∀ i ∈ Region.ready .any ops L, wpOpIn F n P ops Q i (gm F n P ops Q rs fuel (L.setIfInBounds i true)) a w

theorem gm_any {rs : List (Nat × (World → Prop))} : ∀ {fuel : Nat} {L : Array Bool} {a : Act} {w : World}, gm F n P ops Q rs fuel L a w → wpAnyIn F n P .any ops Q fuel L a w
  | 0, _, _, _, h => ⟨h.2.1, h.2.2⟩
  | _ + 1, _, _, _, h => ⟨h.2.1, fun i hi => wpOpIn_mono (fun _ _ h => gm_any h) (h.2.2 i hi)⟩
theorem gm_drop {r : Nat × (World → Prop)} {rs : List (Nat × (World → Prop))} : ∀ {fuel : Nat} {L : Array Bool} {a : Act} {w : World}, gm F n P ops Q (r :: rs) fuel L a w → gm F n P ops Q rs fuel L a w
  | 0, _, _, _, h => ⟨fun x hx => h.1 x (List.mem_cons_of_mem _ hx), h.2⟩
  | _ + 1, _, _, _, h => ⟨fun x hx => h.1 x (List.mem_cons_of_mem _ hx), h.2.1, fun i hi => wpOpIn_mono (fun _ _ h => gm_drop h) (h.2.2 i hi)⟩
theorem gm_S {rs : List (Nat × (World → Prop))} {fuel : Nat} {L : Array Bool} {a : Act} {w : World} (h : gm F n P ops Q rs fuel L a w) : Sx ops rs L w := by
  cases fuel <;> exact h.1
theorem gm_done {rs : List (Nat × (World → Prop))} {L : Array Bool} {a : Act} {w : World} (hS : Sx ops rs L w) (hr : Region.ready .any ops L = []) (h : Q .normal a w) : ∀ fuel, gm F n P ops Q rs fuel L a w
  | 0 => ⟨hS, hr, h⟩
  | _ + 1 => ⟨hS, fun _ => h, by rw [hr]; simp⟩

/-- What an operation yields, while its reading stands. -/
def Yd (P : Program) (ops : Array Oper) (o : Oper) (v : Value) (R : World → Prop) (a : Act) : Prop :=
  (Region.wanted o (yielded ops a.tmps) = true ∧ ∀ W, R W → (execOp a.eval o).run P W = .ok (.value v) W) ∨ (Region.wanted o (yielded ops a.tmps) = false ∧ v = undef)

theorem Yd.same {o : Oper} {v : Value} {R : World → Prop} {a a' : Act} (h : Yd P ops o v R a) (he : execOp a'.eval o = execOp a.eval o) (hw : Region.wanted o (yielded ops a'.tmps) = Region.wanted o (yielded ops a.tmps)) : Yd P ops o v R a' := by
  unfold Yd at *
  rw [he, hw]; exact h

theorem Yd.wpOpIn (hF : ∀ f, F.fn f) (hro : F.round = none) {i : Nat} {o : Oper} {v : Value} {R : World → Prop} {a : Act} (hi : ops[i]? = some o) (hy : Yd P ops o v R a) {K : Act → World → Prop} {w : World} (hR : R w) (h : K (a.put o.dst v) w) :
    wpOpIn F n P ops Q i K a w := by
  unfold Go.wpOpIn
  simp only [hi]
  rcases hy with ⟨hw, hv⟩ | ⟨hw, rfl⟩
  · simp only [hw, if_true, Oper.wpIn, hro, Oper.semAt_none, hv w hR, Oper.uponIn]; exact ⟨fun f _ => hF f, h⟩
  · simp only [hw, Bool.false_eq_true, if_false]; exact ⟨fun f _ => hF f, h⟩

theorem opPut (hF : ∀ f, F.fn f) (hro : F.round = none) {j : Nat} {oi oj : Oper} {v : Value} {R : World → Prop} (hj : ops[j]? = some oj) (hap : oi.apart ops oj = true)
    (hsi : ∀ cs b, oi.op ≠ .select cs b) (hsj : ∀ cs b, oj.op ≠ .select cs b) (hQ : ∀ c a w, ¬ Q (.panic c) a w) {K : Act → World → Prop} {a : Act} {w : World}
    (hy : Yd P ops oi v R a) (h : wpOpIn F n P ops Q j K (a.put oi.dst v) w) :
    wpOpIn F n P ops Q j (fun a' w' => Yd P ops oi v R a' ∧ K (a'.put oi.dst v) w') a w := by
  obtain ⟨h1, h2, h3⟩ := Oper.apart_spec hap
  have keep : ∀ (a : Act), Yd P ops oi v R a → ∀ u, Yd P ops oi v R (a.put oj.dst u) := fun a hy u =>
    hy.same (execOp_put oi hsi a oj.dst u h3) (wanted_put oi a oj.dst u h3)
  have keepD : ∀ d, Yd P ops oi v R { a with defers := d :: a.defers } := fun d => hy.same rfl rfl
  unfold wpOpIn at *
  simp only [hj] at *
  rw [wanted_put oj a oi.dst v h1] at h
  split
  · rename_i hw
    simp only [hw, if_true] at h
    unfold Oper.wpIn at *
    refine ⟨fun f _ => hF f, ?_⟩
    have h := h.2
    rw [hro, Oper.semAt_none, execOp_put oj hsj a oi.dst v h1] at h
    rw [hro, Oper.semAt_none]
    generalize (execOp a.eval oj).run P w = r at *
    cases r with
    | ok x w' =>
      cases x <;> simp only [Oper.uponIn] at h ⊢
      case value u => exact ⟨keep a hy u, by rw [← Act.put_comm a v u h2]; exact h⟩
      case skip => exact ⟨keep a hy _, by rw [← Act.put_comm a v undef h2]; exact h⟩
      case defer d =>
        refine ⟨keep _ (keepD d) _, ?_⟩
        rw [← Act.put_comm _ v undef h2, ← Act.put_defers]
        exact h
      case enter f args =>
        refine ⟨h.1, CallsIn.mono h.2 fun e w'' he => ?_⟩
        cases e with
        | returned u => exact ⟨keep a hy u, by rw [← Act.put_comm a v u h2]; exact he⟩
        | panicked c => exact (hQ _ _ _ he).elim
        | outgrown => exact he
      case row row args => exact ⟨h.1, RowsIn.mono h.2 fun u w'' he => ⟨keep a hy u, by rw [← Act.put_comm a v u h2]; exact he⟩⟩
      case round l f tmps assign body =>
        refine ⟨h.1, RoundIn.mono h.2 fun e w'' he => ?_⟩
        cases e with
        | returned u => exact ⟨keep a hy u, by rw [← Act.put_comm a v u h2]; exact he⟩
        | panicked c => exact (hQ _ _ _ he).elim
        | outgrown => exact he
    | halt x w' =>
      cases x <;> simp only [Oper.uponIn] at h ⊢
      case panic u => exact (hQ _ _ _ h).elim
  · rename_i hw
    simp only [hw] at h
    exact ⟨fun f _ => hF f, keep a hy _, by rw [← Act.put_comm a v undef h2]; exact h.2⟩

theorem isBefore_iff {i : Nat} : ∀ {es : List Edge}, isBefore i es = true ↔ ∃ e ∈ es, Region.binds .any e = true ∧ e.on = i
  | [] => by simp [isBefore]
  | e :: es => by
    simp only [isBefore]
    split
    · rename_i hb
      split
      · rename_i hn
        have := Nat.eq_of_beq_eq_true hn
        simp [hb, this]
      · rename_i hn
        have : ¬ e.on = i := fun h => by subst h; simp at hn
        rw [isBefore_iff]; simp [this]
    · rename_i hb
      rw [isBefore_iff]; simp [hb]

/-- All that a listed operation waits for is listed. -/
def Closed (ops : Array Oper) (L : Array Bool) : Prop := L.size = ops.size ∧ ∀ j oj, ops[j]? = some oj → L.getD j true = true → ∀ i, isBefore i oj.after.toList = true → L.getD i false = true

theorem Closed.set {L : Array Bool} (h : Closed ops L) {j : Nat} (hj : j ∈ Region.ready .any ops L) : Closed ops (L.setIfInBounds j true) := by
  obtain ⟨_, oj, hoj, hall⟩ := mem_ready.1 hj
  have grow : ∀ i, L.getD i false = true → (L.setIfInBounds j true).getD i false = true := by
    intro i hi
    by_cases hij : j = i
    · subst hij
      have : j < L.size := by
        rcases Nat.lt_or_ge j L.size with h1 | h1
        · exact h1
        · simp [Array.getD_eq_getD_getElem?, Array.getElem?_eq_none h1] at hi
      simp [Array.getD_eq_getD_getElem?, this]
    · simp only [Array.getD_eq_getD_getElem?, Array.getElem?_setIfInBounds_ne hij] at hi ⊢; exact hi
  refine ⟨by simpa using h.1, fun k ok hk hl i hi => grow i ?_⟩
  by_cases hkj : j = k
  · subst hkj
    rw [hoj] at hk; injection hk with hk; subst hk
    obtain ⟨e, he, hb, rfl⟩ := isBefore_iff.1 hi
    exact hall e (by simpa using he) hb
  · rw [getD_set_ne true hkj] at hl
    exact h.2 k ok hk hl i hi

theorem hoist (hF : ∀ f, F.fn f) (hro : F.round = none) {i : Nat} {oi : Oper} {v : Value} {R : World → Prop} {rs : List (Nat × (World → Prop))} (hi : ops[i]? = some oi) (hqi : isQuiet oi.op = true)
    (hsel : ∀ (j : Nat) (o : Oper), ops[j]? = some o → ∀ cs b, o.op ≠ .select cs b) (hQ : ∀ c a w, ¬ Q (.panic c) a w)
    (hfree : ∀ (j : Nat) (oj : Oper), ops[j]? = some oj → j ≠ i → isBefore i oj.after.toList = false → isBefore j oi.after.toList = false → oi.apart ops oj = true) :
    ∀ (fuel : Nat) (L : Array Bool) (a : Act) (w : World), Closed ops L → i ∈ Region.ready .any ops L → Yd P ops oi v R a → R w →
      gm F n P ops Q ((i, R) :: rs) fuel (L.setIfInBounds i true) (a.put oi.dst v) w → gm F n P ops Q rs (fuel + 1) L a w := by
  have back : ∀ (L : Array Bool) (w : World) (x : Nat), exempt ops (L.setIfInBounds i true) x → exempt ops L x := by
    intro L w x ⟨j, oj, h1, h2, h3, h4, h5⟩
    by_cases hji : i = j
    · subst hji; rw [hi] at h1; injection h1 with h1; subst h1; rw [hqi] at h4; simp at h4
    · rw [getD_set_ne true hji] at h2
      exact ⟨j, oj, h1, h2, h3, h4, h5⟩
  have backS : ∀ (L : Array Bool) (w : World), Sx ops ((i, R) :: rs) (L.setIfInBounds i true) w → Sx ops rs L w := fun L w h r hr =>
    (h r (List.mem_cons_of_mem _ hr)).imp (back L w r.1) id
  intro fuel
  induction fuel with
  | zero =>
    intro L a w hc hr hy hR H
    refine ⟨backS L w (gm_S H), fun h => (by rw [h] at hr; cases hr), fun j hj => ?_⟩
    by_cases hji : j = i
    · subst hji; exact hy.wpOpIn hF hro hi hR (gm_drop H)
    · have := ready_mono hj hji
      rw [H.2.1] at this
      cases this
  | succ fuel ih =>
    intro L a w hc hr hy hR H
    refine ⟨backS L w (gm_S H), fun h => (by rw [h] at hr; cases hr), fun j hj => ?_⟩
    by_cases hji : j = i
    · subst hji; exact hy.wpOpIn hF hro hi hR (gm_drop H)
    · have h1 := H.2.2 j (ready_mono hj hji)
      obtain ⟨hjun, oj, hoj, hall⟩ := mem_ready.1 hj
      obtain ⟨hiun, oi', hoi', halli⟩ := mem_ready.1 hr
      rw [hi] at hoi'; injection hoi' with hoi'; subst hoi'
      have unl : ∀ (L : Array Bool) x, L.getD x true = false → ¬ L.getD x false = true := fun L x h0 h2 => by
        rcases Nat.lt_or_ge x L.size with h' | h'
        · simp [h'] at h0 h2; rw [h0] at h2; cases h2
        · simp [Array.getElem?_eq_none h'] at h2
      have hnb : isBefore i oj.after.toList = false := by
        cases hb : isBefore i oj.after.toList with
        | false => rfl
        | true =>
          obtain ⟨e, he, hbe, rfl⟩ := isBefore_iff.1 hb
          exact (unl _ _ hiun (hall e (by simpa using he) hbe)).elim
      have hnb' : isBefore j oi.after.toList = false := by
        cases hb : isBefore j oi.after.toList with
        | false => rfl
        | true =>
          obtain ⟨e, he, hbe, rfl⟩ := isBefore_iff.1 hb
          exact (unl _ _ hjun (halli e (by simpa using he) hbe)).elim
      have h2 := opPut hF hro hoj (hfree j oj hoj hji hnb hnb') (hsel i oi hi) (hsel j oj hoj) hQ hy h1
      refine wpOpIn_mono (fun a' w' h3 => ?_) h2
      obtain ⟨hy', h3⟩ := h3
      have hcj := hc.set hj
      have hrj := ready_mono hr (Ne.symm hji)
      have hR' : R w' := by
        rcases gm_S h3 (i, R) (List.mem_cons_self ..) with ⟨x, ox, g1, g2, g3, g4, g5⟩ | hR'
        · exfalso
          have hxi : x ≠ i := fun e => by subst e; rw [hi] at g1; injection g1 with g1; subst g1; rw [hqi] at g4; simp at g4
          rw [Array.setIfInBounds_comm _ _ (Ne.symm hji), getD_set_ne true (Ne.symm hxi)] at g2
          have := hcj.2 x ox g1 g2 i g5
          exact unl _ _ (mem_ready.1 hrj).1 this
        · exact hR'
      refine ih (L.setIfInBounds j true) a' w' hcj hrj hy' hR' ?_
      rw [Array.setIfInBounds_comm _ _ hji]
      exact h3
end
end Go.Proofs.YtonohiifmepjfaaDoor.Ev
