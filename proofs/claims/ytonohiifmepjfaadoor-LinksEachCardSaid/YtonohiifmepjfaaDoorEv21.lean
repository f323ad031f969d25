/-
  Own framework, part 21: reckoning in data: regions that draw their order; loops.
-/
import Derived.Test.YtonohiifmepjfaaDoorEv20
namespace Go.Proofs.YtonohiifmepjfaaDoor.Ev
open Go Go.RowKit

inductive ResD where
  | mk (cs : List Prop) (n : Nat) (listed : List Nat) (recs : List Rec) (a : LAct)

def runDraw (P : Program) (ops : List Oper) (kn : Option Nat) : Nat → List Nat → List Rec → LAct → List Ob → List Prop → ResD
  | 0, listed, recs, a, _, cs => .mk cs 0 listed recs a
  | n + 1, listed, recs, a, H, cs => match readyL listed 0 ops with
    | [] => .mk cs (n + 1) listed recs a
    | x :: xs => match firstQuiet (x :: xs) with
      | none => .mk cs (n + 1) listed recs a
      | some (i, o) => match gk kn o ops a with
        | none => .mk cs (n + 1) listed recs a
        | some false => putG a o.dst (.tup []) fun a => runDraw P ops kn n (i :: listed) recs a H cs
        | some true => match qV P o.op a H with
          | none => .mk cs (n + 1) listed recs a
          | some (c, v) => fV v fun v => putG a o.dst v fun a' => match isPure o.op with
            | true => runDraw P ops kn n (i :: listed) recs a' H (addC c cs)
            | false => runDraw P ops kn n (i :: listed) (⟨i, o.op, a, v⟩ :: recs) a' H (addC c cs)

section
variable {P : Program} {cl : V → List V → List Ob → Cont → Prop} {ops : List Oper} {k : LAct → List Ob → Prop} {a a' : LAct} {H H' : List Ob} {n n' i : Nat} {listed listed' : List Nat} {recs recs' : List Rec} {o : Oper} {cs : List Prop}

theorem evDraw_succ {x : Nat × Oper} {xs : List (Nat × Oper)} (hr : readyL listed 0 ops = x :: xs) (hq : firstQuiet (x :: xs) = some (i, o)) :
    evDraw cl P ops (n + 1) listed recs a H k = guardK o ops a fun want a' => match want with
        | true => match qV P o.op a' H with
          | some (c, v) => frcV v fun v => putK a' o.dst v fun a'' => match isPure o.op with
            | true => match c with
              | none => evDraw cl P ops n (i :: listed) recs a'' H k
              | some c => c ∧ evDraw cl P ops n (i :: listed) recs a'' H k
            | false => match c with
              | none => evDraw cl P ops n (i :: listed) (⟨i, o.op, a', v⟩ :: recs) a'' H k
              | some c => c ∧ evDraw cl P ops n (i :: listed) (⟨i, o.op, a', v⟩ :: recs) a'' H k
          | none => False
        | false => putK a' o.dst (.tup []) fun a'' => evDraw cl P ops n (i :: listed) recs a'' H k := by
  rw [evDraw, hr]; dsimp only; rw [hq]; rfl

theorem runDraw_sound {kn : Option Nat} : ∀ {n : Nat} {listed : List Nat} {recs : List Rec} {a : LAct} {cs0 cs : List Prop} {n' : Nat} {listed' : List Nat} {recs' : List Rec} {a' : LAct},
    runDraw P ops kn n listed recs a H cs0 = .mk cs n' listed' recs' a' → AllP cs → AllP cs0 ∧ (evDraw cl P ops n' listed' recs' a' H k → evDraw cl P ops n listed recs a H k)
  | 0, listed, recs, a, cs0, cs, n', listed', recs', a', h, hc => by
    simp only [runDraw, ResD.mk.injEq] at h
    obtain ⟨rfl, rfl, rfl, rfl, rfl⟩ := h
    exact ⟨hc, id⟩
  | n + 1, listed, recs, a, cs0, cs, n', listed', recs', a', h, hc => by
    simp only [runDraw] at h
    split at h
    · simp only [ResD.mk.injEq] at h
      obtain ⟨rfl, rfl, rfl, rfl, rfl⟩ := h
      exact ⟨hc, id⟩
    · rename_i x xs hr
      split at h
      · simp only [ResD.mk.injEq] at h
        obtain ⟨rfl, rfl, rfl, rfl, rfl⟩ := h
        exact ⟨hc, id⟩
      · rename_i i o hq
        split at h
        · simp only [ResD.mk.injEq] at h
          obtain ⟨rfl, rfl, rfl, rfl, rfl⟩ := h
          exact ⟨hc, id⟩
        · rename_i hg
          rw [putG_eq] at h
          obtain ⟨h1, h2⟩ := runDraw_sound h hc
          refine ⟨h1, fun he => ?_⟩
          rw [evDraw_succ hr hq]
          refine guardK_B (gk_B hg) ?_
          dsimp only
          rw [putK_iff]
          exact h2 he
        · rename_i hg
          split at h
          · simp only [ResD.mk.injEq] at h
            obtain ⟨rfl, rfl, rfl, rfl, rfl⟩ := h
            exact ⟨hc, id⟩
          · rename_i c v hv
            rw [fV_eq, putG_eq] at h
            split at h
            all_goals
              rename_i hp
              obtain ⟨h1, h2⟩ := runDraw_sound h hc
              obtain ⟨c1, c2⟩ := addC_holds h1
              refine ⟨c2, fun he => ?_⟩
              rw [evDraw_succ hr hq]
              refine guardK_B (gk_B hg) ?_
              dsimp only
              rw [hv]; dsimp only
              rw [frcV_iff, putK_iff, hp]; dsimp only
              cases c with
              | none => exact h2 he
              | some c => exact ⟨c1, h2 he⟩

theorem draw_run (h : runDraw P ops none n listed recs a H [] = .mk cs n' listed' recs' a') (_hp : Nat.blt n' n = true) (hc : AllP cs) (hk : evDraw cl P ops n' listed' recs' a' H k) : evDraw cl P ops n listed recs a H k :=
  (runDraw_sound h hc).2 hk
/-- The next that only reads. -/
def nextQ (ops : List Oper) (listed : List Nat) : Option (Nat × Oper) := firstQuiet (readyL listed 0 ops)
theorem draw_lit {j : Nat} {w r : Bool} (_hn : nextQ ops listed = some (i, o)) (_hg : o.guard = some (j, w)) (_hb : gB o ops a = some r) (h : runDraw P ops (some j) n listed recs a H [] = .mk cs n' listed' recs' a') (_hp : Nat.blt n' n = true) (hc : AllP cs)
    (hk : evDraw cl P ops n' listed' recs' a' H k) : evDraw cl P ops n listed recs a H k :=
  (runDraw_sound h hc).2 hk
theorem gD_self {d : Tmp} {b want : Bool} (h : gD o ops a = some (d, b, want)) : a.put (some d) (.bool b) = a := by
  refine put_self ?_
  unfold gD at h
  split at h
  · simp at h
  · split at h <;> try (simp at h; done)
    split at h <;> try (simp at h; done)
    split at h <;> try (simp at h; done)
    rename_i h3
    simp at h; obtain ⟨rfl, rfl, _⟩ := h; exact h3
theorem draw_by {d : Tmp} {b want r : Bool} (_hn : nextQ ops listed = some (i, o)) (h : gD o ops a = some (d, b, want)) (hb : b = r) (ha : putG a (some d) (.bool r) some = some a') (hk : evDraw cl P ops n listed recs a' H k) : evDraw cl P ops n listed recs a H k := by
  subst hb
  rw [putG_eq, gD_self h] at ha
  injection ha with ha; rw [ha]; exact hk
theorem draw_split {d : Tmp} {b want : Bool} {a1 a2 : LAct} (hn : nextQ ops listed = some (i, o)) (h : gD o ops a = some (d, b, want)) (ha1 : putG a (some d) (.bool true) some = some a1) (ha2 : putG a (some d) (.bool false) some = some a2)
    (h1 : b = true → evDraw cl P ops n listed recs a1 H k) (h2 : b = false → evDraw cl P ops n listed recs a2 H k) : evDraw cl P ops n listed recs a H k := by
  cases b
  · exact draw_by hn h rfl ha2 (h2 rfl)
  · exact draw_by hn h rfl ha1 (h1 rfl)
theorem draw_done (h : readyL listed 0 ops = []) (hk : k a H) : evDraw cl P ops n listed recs a H k := by
  cases n <;> (rw [evDraw, h]; exact hk)

def recheckD (P : Program) (o : Oper) (H : List Ob) : List Rec → Option (List Prop)
  | [] => some []
  | r :: rs => match isBefore r.i o.after.toList with
    | true => recheckD P o H rs
    | false => match qV P r.op r.act H with
      | some (c, v) => match recheckD P o H rs with
        | some cs => some (addC c ((v = r.val) :: cs))
        | none => none
      | none => none
theorem recheckD_sound {p : Prop} : ∀ {recs : List Rec} {cs : List Prop}, recheckD P o H recs = some cs → AllP cs → p → recheck P o H recs p
  | [], cs, _, _, hp => hp
  | r :: rs, cs, h, hc, hp => by
    simp only [recheckD] at h
    simp only [recheck]
    split at h
    · rename_i hb; rw [hb]; exact recheckD_sound h hc hp
    · rename_i hb; rw [hb]; dsimp only
      split at h <;> try (simp at h; done)
      rename_i c v hv
      split at h <;> try (simp at h; done)
      rename_i cs' h2
      simp at h; subst h
      obtain ⟨c1, c2⟩ := addC_holds hc
      obtain ⟨c3, c4⟩ := AllP_cons.1 c2
      rw [hv]
      cases c with
      | none => exact ⟨c3, recheckD_sound h2 c4 hp⟩
      | some c => exact ⟨c1, c3, recheckD_sound h2 c4 hp⟩

/-- What follows an effect in such a region. -/
def aftD (cl : V → List V → List Ob → Cont → Prop) (P : Program) (ops : List Oper) (n : Nat) (i : Nat) (o : Oper) (listed : List Nat) (recs : List Rec) (a : LAct) (k : LAct → List Ob → Prop) : Cont :=
  fun v H' => recheck P o H' recs (evDraw cl P ops n (i :: listed) recs (a.put o.dst v) H' k)
theorem aftD_go {v : V} {H2 : List Ob} (h : norm2 a o.dst v H = (a', H2)) (hr : recheckD P o H2 recs = some cs) (hc : AllP cs) (hk : evDraw cl P ops n (i :: listed) recs a' H2 k) : aftD cl P ops n i o listed recs a k v H := by
  simp only [norm2, fD_eq, fH_eq, putG_eq, Prod.mk.injEq] at h
  obtain ⟨rfl, rfl⟩ := h
  exact recheckD_sound hr hc hk
def drawOne (cl : V → List V → List Ob → Cont → Prop) (P : Program) (ops : List Oper) (n : Nat) (listed : List Nat) (recs : List Rec) (a : LAct) (H : List Ob) (k : LAct → List Ob → Prop) (x : Nat × Oper) : Prop :=
  guardK x.2 ops a fun want a' => match want with
    | true => stepK cl P x.2.op a' H fun v H' => frcV v fun v => putK a' x.2.dst v fun a'' => recheck P x.2 H' recs (evDraw cl P ops n (x.1 :: listed) recs a'' H' k)
    | false => putK a' x.2.dst (.tup []) fun a'' => evDraw cl P ops n (x.1 :: listed) recs a'' H k
theorem one_step (hg : gB o ops a = some true) (h : stepK cl P o.op a H (aftD cl P ops n i o listed recs a k)) : drawOne cl P ops n listed recs a H k (i, o) := by
  refine guardK_B hg ?_
  dsimp only
  have e : (fun v H' => frcV v fun v => putK a o.dst v fun a'' => recheck P o H' recs (evDraw cl P ops n (i :: listed) recs a'' H' k)) = aftD cl P ops n i o listed recs a k := by
    funext v H'; simp only [frcV_iff, putK_iff, aftD]
  rw [e]; exact h
theorem one_skip (hg : gB o ops a = some false) (ha : putG a o.dst (.tup []) some = some a') (h : evDraw cl P ops n (i :: listed) recs a' H k) : drawOne cl P ops n listed recs a H k (i, o) := by
  refine guardK_B hg ?_
  dsimp only
  rw [putG_eq] at ha; injection ha with ha
  rw [putK_iff, ha]; exact h
theorem draw_many {x : Nat × Oper} {xs : List (Nat × Oper)} (hr : fL (readyL listed 0 ops) some = some (x :: xs)) (hq : firstQuiet (x :: xs) = none) (h : evAll (drawOne cl P ops n listed recs a H k) (x :: xs)) : evDraw cl P ops (n + 1) listed recs a H k := by
  rw [fL_eq] at hr; injection hr with hr
  rw [evDraw, hr]; dsimp only; rw [hq]; exact h
theorem allD_one {f : Nat × Oper → Prop} {x : Nat × Oper} (h : f x) : evAll f [x] := h
theorem allD_more {f : Nat × Oper → Prop} {x y : Nat × Oper} {xs : List (Nat × Oper)} (h : f x) (h2 : evAll f (y :: xs)) : evAll f (x :: y :: xs) := ⟨h, h2⟩
end

theorem stp_eff {P : Program} {cl : V → List V → List Ob → Cont → Prop} {op : Op} {a : LAct} {H H' : List Ob} {k : Cont} {ds : List Prop} {v : V} (hq : qV P op a H = none) (h : effD P op a H = some (ds, v, H')) (hc : AllP ds) (hk : k v H') : stepK cl P op a H k :=
  stepK_op (opK_e hq (effD_sound h hc hk))
end Go.Proofs.YtonohiifmepjfaaDoor.Ev
