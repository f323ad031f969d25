/-
  Own framework, part 19: contracts of functions, proved on a small memory; steps of a reckoning.
-/
import Derived.Test.YtonohiifmepjfaaDoorEv18
namespace Go.Proofs.YtonohiifmepjfaaDoor.Ev
open Go Go.RowKit

theorem rec_t {b : Bool} {p q : Prop} (h : b = true) (hp : p) : @Bool.rec (fun _ => Prop) q p b := by subst h; exact hp
theorem rec_f {b : Bool} {p q : Prop} (h : b = false) (hq : q) : @Bool.rec (fun _ => Prop) q p b := by subst h; exact hq
theorem look_some {α : Type} {o : Option α} {g : α} {P : α → Prop} {q : Prop} (h : o = some g) (hp : P g) : (∀ g', o = some g' → P g') ∧ (o = none → q) :=
  ⟨fun g' hg => (by rw [h] at hg; injection hg with hg; subst hg; exact hp), fun hn => (by rw [h] at hn; cases hn)⟩
theorem look_none {α : Type} {o : Option α} {P : α → Prop} {q : Prop} (h : o = none) (hq : q) : (∀ g', o = some g' → P g') ∧ (o = none → q) :=
  ⟨fun g' hg => (by rw [h] at hg; cases hg), fun _ => hq⟩

def StandsF (r : Nat → Nat) (H : List Ob) : List Nat → List Ob → Prop
  | l :: ls, o :: os => H[l]? = some (renOb r o) ∧ StandsF r H ls os
  | [], [] => True
  | _, _ => False
theorem standsF_get {r : Nat → Nat} {H : List Ob} : ∀ {ls : List Nat} {os : List Ob}, StandsF r H ls os → ls.length = os.length ∧ ∀ (j l : Nat) (o : Ob), ls[j]? = some l → os[j]? = some o → H[l]? = some (renOb r o)
  | [], [], _ => ⟨rfl, fun j l o h => by simp at h⟩
  | l :: ls, o :: os, h => by
    obtain ⟨h1, h2⟩ := h
    obtain ⟨g1, g2⟩ := standsF_get h2
    refine ⟨by simp [g1], fun j l' o' ha hb => ?_⟩
    cases j with
    | zero => simp at ha hb; subst ha; subst hb; exact h1
    | succ j => exact g2 j l' o' (by simpa using ha) (by simpa using hb)
  | [], _ :: _, h => h.elim
  | _ :: _, [], h => h.elim
theorem stands_of {ls : List Nat} {H0 H : List Ob} (hn : ls.Nodup) (h : StandsF (rho ls H.length) H ls H0) : Stands ls H0 H :=
  ⟨(standsF_get h).1, hn, (standsF_get h).2⟩

section
variable {P : Program} (hNG : ∀ (f : Nat) (fn : Func), P.funcs[f]? = some fn → (fn.name == "runtime.NumGoroutine") = false) (hmix : P.follows .mixedOrders = true)
include hNG hmix
theorem sound_small {f : FuncId} {C : List V → List Ob → Cont → Prop}
    (h : ∀ args H k, C args H k → ∃ (n : Nat) (args0 : List V) (H0 : List Ob) (ls : List Nat) (post : V → List Ob → Prop), evF P n f args0 H0 (gcS H0.length post) ∧ args = rens (rho ls H.length) args0 ∧ Stands ls H0 H ∧
      labH H0.length H0 True ∧ labs H0.length args0 = true ∧ (∀ o ∈ H0, o.live = true) ∧
      ∀ v H', post v H' → (∀ (j : Nat) (o : Ob), H0.length ≤ j → H'[j]? = some o → o.live = true → o.own = true) ∧ k (ren (rho ls H.length) v) (merge (rho ls H.length) ls H' H)) : Sound P f C := by
  intro args H k E w hc hr hw
  obtain ⟨n, args0, H0, ls, post, he, rfl, hst, hl1, hl2, hl3, hk⟩ := h args H k hc
  refine lift (P := P) (f := f) (post := post) (fun E0 r0 w0 => Calls.mono (evF_sound hNG hmix he r0 w0) fun e w' he => retP_gcS he) hst hl1 hl2 hl3 (fun v H' hp => (hk v H' hp).1) (fun v H' hp => (hk v H' hp).2) hr hw
/-- A function of plain values. -/
theorem sound_plain {f : FuncId} {C : List V → List Ob → Cont → Prop}
    (h : ∀ args H k, C args H k → ∃ (n : Nat) (v : V), evF P n f args [] (gcS 0 fun v' H' => v' = v ∧ H' = []) ∧ (∀ r, rens r args = args) ∧ (∀ r, ren r v = v) ∧ labs 0 args = true ∧ k v H) : Sound P f C := by
  refine sound_small hNG hmix fun args H k hc => ?_
  obtain ⟨n, v, he, h1, h2, h3, hk⟩ := h args H k hc
  refine ⟨n, args, [], [], _, he, (h1 _).symm, ⟨rfl, by simp, fun j l o h => by simp at h⟩, trivial, h3, by simp, ?_⟩
  rintro v' H' ⟨rfl, rfl⟩
  exact ⟨fun j o _ h => by simp at h, by rw [h2]; simpa [merge] using hk⟩
end

theorem labH1 {N : Nat} {o : Ob} (h : labOb N o True) : labH N [o] True := h
theorem labH2 {N : Nat} {o1 o2 : Ob} (h1 : labOb N o1 True) (h2 : labOb N o2 True) : labH N [o1, o2] True := labOb_any h1 h2
end Go.Proofs.YtonohiifmepjfaaDoor.Ev
