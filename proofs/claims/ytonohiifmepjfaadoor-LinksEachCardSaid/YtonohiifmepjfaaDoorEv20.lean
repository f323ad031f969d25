/-
  Own framework, part 20: reckoning in data: runs of operations as one equation of data, code step by step by lemmas in folded form (so that the kernel has little to compare).
-/
import Derived.Test.YtonohiifmepjfaaDoorEv19
namespace Go.Proofs.YtonohiifmepjfaaDoor.Ev
open Go Go.RowKit

section force
variable {β : Type}
def fL {α : Type} : List α → (List α → β) → β
  | [], k => k []
  | x :: l, k => fL l fun l' => k (x :: l')
def sL {α : Type} : List α → Nat → α → (List α → β) → β
  | [], _, _, k => k []
  | _ :: l, 0, v, k => k (v :: l)
  | x :: l, n + 1, v, k => sL l n v fun l' => k (x :: l')
def nF : Nat → Nat → (Nat → β) → β
  | 0, n, k => k n
  | m + 1, n, k => nF m (n + 1) k
def fV : V → (V → β) → β
  | .bool b, k => k (.bool b)
  | .int t n, k => k (.int t n)
  | .str s, k => k (.str s)
  | .ptr l e c, k => nF l 0 fun l => nF c 0 fun c => k (.ptr l e c)
  | .nilp, k => k .nilp
  | .slc a cap l st len, k => nF l 0 fun l => k (.slc a cap l st len)
  | .nils, k => k .nils
  | .map l, k => nF l 0 fun l => k (.map l)
  | .nilm, k => k .nilm
  | .func f x y, k => fL x fun x => fL y fun y => k (.func f x y)
  | .yld l, k => k (.yld l)
  | .nilf, k => k .nilf
  | .iface t v, k => k (.iface t v)
  | .nili, k => k .nili
  | .agg cs, k => fL cs fun cs => k (.agg cs)
  | .tup vs, k => fL vs fun vs => k (.tup vs)
  | .raw v, k => k (.raw v)
mutual
def fD : V → (V → β) → β
  | .ptr l e c, k => nF l 0 fun l => nF c 0 fun c => k (.ptr l e c)
  | .slc a cap l st len, k => nF l 0 fun l => k (.slc a cap l st len)
  | .map l, k => nF l 0 fun l => k (.map l)
  | .yld l, k => nF l 0 fun l => k (.yld l)
  | .func f x y, k => fDs x fun x => fDs y fun y => k (.func f x y)
  | .iface t v, k => fD v fun v => k (.iface t v)
  | .agg cs, k => fDs cs fun cs => k (.agg cs)
  | .tup vs, k => fDs vs fun vs => k (.tup vs)
  | .bool b, k => k (.bool b)
  | .int t n, k => k (.int t n)
  | .str s, k => k (.str s)
  | .nilp, k => k .nilp
  | .nils, k => k .nils
  | .nilm, k => k .nilm
  | .nilf, k => k .nilf
  | .nili, k => k .nili
  | .raw v, k => k (.raw v)
def fDs : List V → (List V → β) → β
  | [], k => k []
  | v :: vs, k => fD v fun v => fDs vs fun vs => k (v :: vs)
end
def fC : List Col → (List Col → β) → β
  | [], k => k []
  | .int t f :: cs, k => fC cs fun cs => k (.int t f :: cs)
  | .bool f :: cs, k => fC cs fun cs => k (.bool f :: cs)
  | .str f :: cs, k => fC cs fun cs => k (.str f :: cs)
  | .val f :: cs, k => fC cs fun cs => k (.val f :: cs)
def fO : Ob → (Ob → β) → β
  | .mem own ty pre n cols, k => fDs pre fun pre => fC cols fun cols => k (.mem own ty pre n cols)
  | .mp ks f, k => k (.mp ks f)
  | .loop st pd ts ps as bd d, k => fL ts fun ts => k (.loop st pd ts ps as bd d)
  | .dfr, k => k .dfr
  | .dead, k => k .dead
def fH : List Ob → (List Ob → β) → β
  | [], k => k []
  | o :: H, k => fO o fun o => fH H fun H => k (o :: H)
def putG : LAct → Option Tmp → V → (LAct → β) → β
  | ⟨ts, ds⟩, some t, v, k => sL ts t v fun ts => k ⟨ts, ds⟩
  | a, none, _, k => k a

theorem fL_eq {α : Type} : ∀ {l : List α} {k : List α → β}, fL l k = k l
  | [], k => rfl
  | x :: l, k => by simp only [fL]; exact fL_eq
theorem sL_eq {α : Type} {v : α} : ∀ {l : List α} {n : Nat} {k : List α → β}, sL l n v k = k (l.set n v)
  | [], n, k => by cases n <;> rfl
  | x :: l, 0, k => rfl
  | x :: l, n + 1, k => by simp only [sL, List.set_cons_succ]; exact sL_eq
theorem nF_eq : ∀ {m n : Nat} {k : Nat → β}, nF m n k = k (n + m)
  | 0, n, k => rfl
  | m + 1, n, k => by simp only [nF]; rw [nF_eq, show n + 1 + m = n + (m + 1) by omega]
theorem fV_eq {v : V} {k : V → β} : fV v k = k v := by
  cases v <;> simp only [fV, fL_eq, nF_eq, Nat.zero_add]
mutual
theorem fD_eq : ∀ {v : V} {k : V → β}, fD v k = k v
  | .ptr _ _ _, k | .slc _ _ _ _ _, k | .map _, k | .yld _, k => by simp only [fD, nF_eq, Nat.zero_add]
  | .func f x y, k => by simp only [fD]; rw [fDs_eq, fDs_eq]
  | .iface t v, k => by simp only [fD]; rw [fD_eq]
  | .agg cs, k => by simp only [fD]; rw [fDs_eq]
  | .tup cs, k => by simp only [fD]; rw [fDs_eq]
  | .bool _, k | .int _ _, k | .str _, k | .nilp, k | .nils, k | .nilm, k | .nilf, k | .nili, k | .raw _, k => by simp only [fD]
theorem fDs_eq : ∀ {vs : List V} {k : List V → β}, fDs vs k = k vs
  | [], k => by simp only [fDs]
  | v :: vs, k => by simp only [fDs]; rw [fD_eq, fDs_eq]
end
theorem fC_eq : ∀ {cs : List Col} {k : List Col → β}, fC cs k = k cs
  | [], k => rfl
  | c :: cs, k => by cases c <;> (simp only [fC]; rw [fC_eq])
theorem fO_eq {o : Ob} {k : Ob → β} : fO o k = k o := by
  cases o <;> simp only [fO, fDs_eq, fC_eq, fL_eq]
theorem fH_eq : ∀ {H : List Ob} {k : List Ob → β}, fH H k = k H
  | [], k => rfl
  | o :: H, k => by simp only [fH]; rw [fO_eq, fH_eq]
theorem putG_eq {a : LAct} {d : Option Tmp} {v : V} {k : LAct → β} : putG a d v k = k (a.put d v) := by
  cases a; cases d <;> simp only [putG, LAct.put, sL_eq]
end force

def AllP : List Prop → Prop
  | [] => True
  | [p] => p
  | p :: q :: ps => p ∧ AllP (q :: ps)
theorem AllP_cons {p : Prop} {ps : List Prop} : AllP (p :: ps) ↔ p ∧ AllP ps := by cases ps <;> simp [AllP]
theorem AllP_app : ∀ {ps qs : List Prop}, AllP (ps ++ qs) ↔ AllP ps ∧ AllP qs
  | [], qs => by simp [AllP]
  | p :: ps, qs => by rw [List.cons_append, AllP_cons, AllP_cons, AllP_app]; exact and_assoc.symm
def addC : Cond → List Prop → List Prop
  | none, cs => cs
  | some c, cs => c :: cs
theorem addC_holds {c : Cond} {cs : List Prop} (h : AllP (addC c cs)) : c.holds ∧ AllP cs := by
  cases c with
  | none => exact ⟨trivial, h⟩
  | some p => exact AllP_cons.1 h

/-- Effects that leave nothing open. -/
def effD (P : Program) (op : Op) (a : LAct) (H : List Ob) : Option (List Prop × V × List Ob) :=
  match op with
  | .alloc t => match isAggO P t with
    | some false => match zeroV P t with
      | some z => match z.one with
        | true => some ([], .ptr H.length 0 0, H ++ [.mem true t [z] 0 []])
        | false => none
      | none => none
    | some true => match P.underlying t with
      | some (.struct _) => match szOf P t with
        | some s => match Nat.ble s 40 with
          | true => match zeroV P t with
            | some z => match z.parts.all V.one with
              | true => some ([], .ptr H.length 0 0, H ++ [.mem true t z.parts 0 []])
              | false => none
            | none => none
          | false => none
        | none => none
      | _ => none
    | none => none
  | .box t x => match a.ev x with
    | some v => match v.parts.all V.one with
      | true => some ([], .ptr H.length 0 0, H ++ [.mem true t v.parts 0 []])
      | false => none
    | none => none
  | .makeMap t none => match P.underlying t with
    | some (.map kt el) => match P.underlying kt with
      | some (.int .i64) => match zeroV P el with
        | some (.agg zs) => match kindsOf zs with
          | some ks => some ([], .map H.length, H ++ [.mp ks fun _ => none])
          | none => none
        | _ => none
      | _ => none
    | _ => none
  | .store t p x => match a.ev p with
    | some p => match a.ev x with
      | some x => match storeV P t H p x with
        | some (c, H') => some (addC c [], .tup [], H')
        | none => none
      | none => none
    | none => none
  | .mapUpdate t m i x => match a.ev m with
    | some m => match a.ev i with
      | some i => match a.ev x with
        | some x => match mapUpdateV P t m i x H with
          | some H' => some ([], .tup [], H')
          | none => none
        | none => none
      | none => none
    | none => none
  | _ => none

theorem effD_sound {P : Program} {op : Op} {a : LAct} {H H' : List Ob} {cs : List Prop} {v : V} {k : V → List Ob → Prop} (h : effD P op a H = some (cs, v, H')) (hc : AllP cs) (hk : k v H') : effK P op a H k := by
  unfold effD at h
  unfold effK
  split at h
  · simp only [allocK]
    split at h
    · rename_i h1; rw [h1]; dsimp only
      split at h <;> try (simp at h; done)
      rename_i h2; rw [h2]; dsimp only
      split at h <;> try (simp at h; done)
      rename_i h3; rw [h3]; dsimp only
      simp at h; obtain ⟨rfl, rfl, rfl⟩ := h; exact hk
    · rename_i h1; rw [h1]; dsimp only
      split at h <;> try (simp at h; done)
      rename_i h2; rw [h2]; dsimp only
      split at h <;> try (simp at h; done)
      rename_i h3; rw [h3]; dsimp only
      split at h <;> try (simp at h; done)
      rename_i h4; rw [h4]; dsimp only
      split at h <;> try (simp at h; done)
      rename_i h5; rw [h5]; dsimp only
      split at h <;> try (simp at h; done)
      rename_i h6; rw [h6]; dsimp only
      simp at h; obtain ⟨rfl, rfl, rfl⟩ := h; exact hk
    · simp at h
  · split at h <;> try (simp at h; done)
    rename_i h1; dsimp only; rw [h1]; dsimp only [boxK]
    split at h <;> try (simp at h; done)
    rename_i h2; rw [h2]; dsimp only
    simp at h; obtain ⟨rfl, rfl, rfl⟩ := h; exact hk
  · dsimp only [makeMapK]
    split at h <;> try (simp at h; done)
    rename_i h1; rw [h1]; dsimp only
    split at h <;> try (simp at h; done)
    rename_i h2; rw [h2]; dsimp only
    split at h <;> try (simp at h; done)
    rename_i h3; rw [h3]; dsimp only
    split at h <;> try (simp at h; done)
    rename_i h4; rw [h4]; dsimp only
    simp at h; obtain ⟨rfl, rfl, rfl⟩ := h; exact hk
  · dsimp only
    split at h <;> try (simp at h; done)
    rename_i h1; rw [h1]; dsimp only
    split at h <;> try (simp at h; done)
    rename_i h2; rw [h2]; dsimp only
    split at h <;> try (simp at h; done)
    rename_i c H2 h3; rw [h3]
    simp at h; obtain ⟨rfl, rfl, rfl⟩ := h
    cases c with
    | none => exact hk
    | some c => exact ⟨hc, hk⟩
  · dsimp only
    split at h <;> try (simp at h; done)
    rename_i h1; rw [h1]; dsimp only
    split at h <;> try (simp at h; done)
    rename_i h2; rw [h2]; dsimp only
    split at h <;> try (simp at h; done)
    rename_i h3; rw [h3]; dsimp only
    split at h <;> try (simp at h; done)
    rename_i h4; rw [h4]; dsimp only
    simp at h; obtain ⟨rfl, rfl, rfl⟩ := h; exact hk
  · simp at h

theorem stepK_op {cl : V → List V → List Ob → Cont → Prop} {P : Program} {op : Op} {a : LAct} {H : List Ob} {k : Cont} (h : opK P op a H k) : stepK cl P op a H k := by
  unfold stepK
  split
  · simp [opK, qV, effK] at h
  · simp [opK, qV, effK] at h
  · rw [show (opK P op a H fun v H' => frcL H' fun H' => frcN v fun v => k v H') = opK P op a H k by simp only [frcL_iff, frcN_iff]]
    exact h

theorem opK_q {P : Program} {op : Op} {a : LAct} {H : List Ob} {k : V → List Ob → Prop} {c : Cond} {v : V} (h : qV P op a H = some (c, v)) (hc : c.holds) (hk : k v H) : opK P op a H k := by
  unfold opK; rw [h]
  cases c with
  | none => exact hk
  | some c => exact ⟨hc, hk⟩
theorem opK_e {P : Program} {op : Op} {a : LAct} {H : List Ob} {k : V → List Ob → Prop} (h : qV P op a H = none) (hk : effK P op a H k) : opK P op a H k := by
  unfold opK; rw [h]; exact hk

/-! ### Guards -/
def gD (o : Oper) (all : List Oper) (a : LAct) : Option (Tmp × Bool × Bool) :=
  match o.guard with
  | none => none
  | some (j, want) => match all[j]? with
    | some oj => match oj.dst with
      | some d => match a.tmps[d]? with
        | some (.bool b) => some (d, b, want)
        | _ => none
      | none => none
    | none => none
/-- A guard that is plain to see. -/
def gB (o : Oper) (all : List Oper) (a : LAct) : Option Bool :=
  match o.guard with
  | none => some true
  | some (j, want) => match all[j]? with
    | some oj => match oj.dst with
      | some d => match a.tmps[d]? with
        | some (.bool b) => match b with
          | true => match want with
            | true => some true
            | false => some false
          | false => match want with
            | true => some false
            | false => some true
        | some (.tup []) => some false
        | _ => none
      | none => none
    | none => none
theorem put_self {a : LAct} {d : Tmp} {v : V} (h : a.tmps[d]? = some v) : a.put (some d) v = a := by
  cases a with | mk ts ds =>
  simp only [LAct.put]
  congr 1
  obtain ⟨h1, h2⟩ := List.getElem?_eq_some_iff.1 h
  subst h2
  exact List.set_getElem_self h1
theorem guardK_B {o : Oper} {all : List Oper} {a : LAct} {k : Bool → LAct → Prop} {r : Bool} (h : gB o all a = some r) (hk : k r a) : guardK o all a k := by
  unfold gB at h
  unfold guardK
  split at h
  · rename_i h0; rw [h0]; simp at h; subst h; exact hk
  · rename_i j want h0; rw [h0]; dsimp only
    split at h <;> try (simp at h; done)
    rename_i oj h1; rw [h1]; dsimp only
    split at h <;> try (simp at h; done)
    rename_i d h2; rw [h2]; dsimp only
    split at h <;> try (simp at h; done)
    · rename_i b h3; rw [h3]; dsimp only [splitB]
      cases b with
      | false =>
        show putK a (some d) (.bool false) fun a => k (false == want) a
        rw [putK_iff, put_self h3]
        cases want <;> simp at h <;> subst h <;> exact hk
      | true =>
        show putK a (some d) (.bool true) fun a => k (true == want) a
        rw [putK_iff, put_self h3]
        cases want <;> simp at h <;> subst h <;> exact hk
    · rename_i h3; rw [h3]; simp at h; subst h; exact hk
theorem guardK_D {o : Oper} {all : List Oper} {a : LAct} {k : Bool → LAct → Prop} {d : Tmp} {b want : Bool} (h : gD o all a = some (d, b, want)) (h1 : b = true → k want (a.put (some d) (.bool true))) (h2 : b = false → k (!want) (a.put (some d) (.bool false))) : guardK o all a k := by
  unfold gD at h
  unfold guardK
  split at h
  · simp at h
  · rename_i j w h0; rw [h0]; dsimp only
    split at h <;> try (simp at h; done)
    rename_i oj g1; rw [g1]; dsimp only
    split at h <;> try (simp at h; done)
    rename_i d' g2; rw [g2]; dsimp only
    split at h <;> try (simp at h; done)
    rename_i b' g3; rw [g3]; dsimp only [splitB]
    simp at h; obtain ⟨rfl, rfl, rfl⟩ := h
    cases b' with
    | false =>
      show putK a (some d') (.bool false) fun a => k (false == w) a
      rw [putK_iff]; have := h2 rfl; cases w <;> exact this
    | true =>
      show putK a (some d') (.bool true) fun a => k (true == w) a
      rw [putK_iff]; have := h1 rfl; cases w <;> exact this

/-! ### Runs of operations -/
inductive Res where
  | mk (cs : List Prop) (rest : List Oper) (a : LAct) (H : List Ob)

def gk (kn : Option Nat) (o : Oper) (all : List Oper) (a : LAct) : Option Bool :=
  match o.guard with
  | none => some true
  | some (j, _) => match kn with
    | some j' => match Nat.beq j j' with
      | true => gB o all a
      | false => none
    | none => none
theorem gk_B {kn : Option Nat} {o : Oper} {all : List Oper} {a : LAct} {r : Bool} (h : gk kn o all a = some r) : gB o all a = some r := by
  unfold gk at h
  split at h
  · rename_i h0; unfold gB; rw [h0]; exact h
  · split at h <;> try (simp at h; done)
    split at h <;> try (simp at h; done)
    exact h

def runOps (P : Program) (all : List Oper) (kn : Option Nat) : List Oper → LAct → List Ob → List Prop → Res
  | [], a, H, cs => .mk cs [] a H
  | o :: rest, a, H, cs => match gk kn o all a with
    | none => .mk cs (o :: rest) a H
    | some false => putG a o.dst (.tup []) fun a => runOps P all kn rest a H cs
    | some true => match qV P o.op a H with
      | some (c, v) => fV v fun v => putG a o.dst v fun a => runOps P all kn rest a H (addC c cs)
      | none => match effD P o.op a H with
        | some (ds, v, H') => fL H' fun H' => fV v fun v => putG a o.dst v fun a => runOps P all kn rest a H' (ds ++ cs)
        | none => .mk cs (o :: rest) a H

theorem evOps_cons {cl : V → List V → List Ob → Cont → Prop} {P : Program} {all rest : List Oper} {o : Oper} {a : LAct} {H : List Ob} {k : LAct → List Ob → Prop} :
    evOps cl P all (o :: rest) a H k = guardK o all a fun want a => match want with
      | true => stepK cl P o.op a H fun v H' => frcV v fun v => putK a o.dst v fun a => evOps cl P all rest a H' k
      | false => putK a o.dst (.tup []) fun a => evOps cl P all rest a H k := rfl

theorem runOps_sound {cl : V → List V → List Ob → Cont → Prop} {P : Program} {all : List Oper} {kn : Option Nat} {k : LAct → List Ob → Prop} : ∀ {l : List Oper} {a : LAct} {H : List Ob} {cs0 cs : List Prop} {rest : List Oper} {a' : LAct} {H' : List Ob},
    runOps P all kn l a H cs0 = .mk cs rest a' H' → AllP cs → AllP cs0 ∧ (evOps cl P all rest a' H' k → evOps cl P all l a H k)
  | [], a, H, cs0, cs, rest, a', H', h, hc => by
    simp only [runOps, Res.mk.injEq] at h
    obtain ⟨rfl, rfl, rfl, rfl⟩ := h
    exact ⟨hc, id⟩
  | o :: l, a, H, cs0, cs, rest, a', H', h, hc => by
    simp only [runOps] at h
    split at h
    · simp only [Res.mk.injEq] at h
      obtain ⟨rfl, rfl, rfl, rfl⟩ := h
      exact ⟨hc, id⟩
    · rename_i hg
      rw [putG_eq] at h
      obtain ⟨h1, h2⟩ := runOps_sound (cl := cl) (k := k) h hc
      refine ⟨h1, fun he => ?_⟩
      rw [evOps_cons]
      refine guardK_B (gk_B hg) ?_
      dsimp only
      rw [putK_iff]
      exact h2 he
    · rename_i hg
      split at h
      · rename_i c v hq
        rw [fV_eq, putG_eq] at h
        obtain ⟨h1, h2⟩ := runOps_sound (cl := cl) (k := k) h hc
        obtain ⟨c1, c2⟩ := addC_holds h1
        refine ⟨c2, fun he => ?_⟩
        rw [evOps_cons]
        refine guardK_B (gk_B hg) ?_
        dsimp only
        refine stepK_op (opK_q hq c1 ?_)
        rw [frcV_iff, putK_iff]
        exact h2 he
      · rename_i hq
        split at h
        · rename_i ds v H2 hd
          rw [fL_eq, fV_eq, putG_eq] at h
          obtain ⟨h1, h2⟩ := runOps_sound (cl := cl) (k := k) h hc
          obtain ⟨c1, c2⟩ := AllP_app.1 h1
          refine ⟨c2, fun he => ?_⟩
          rw [evOps_cons]
          refine guardK_B (gk_B hg) ?_
          dsimp only
          refine stepK_op (opK_e hq (effD_sound hd c1 ?_))
          rw [frcV_iff, putK_iff]
          exact h2 he
        · simp only [Res.mk.injEq] at h
          obtain ⟨rfl, rfl, rfl, rfl⟩ := h
          exact ⟨hc, id⟩

def ltLen : List Oper → List Oper → Bool
  | [], _ :: _ => true
  | _ :: l, _ :: m => ltLen l m
  | _, [] => false

section lemmas
variable {P : Program} {cl : V → List V → List Ob → Cont → Prop} {all rest rest' : List Oper} {o : Oper} {a a' : LAct} {H H' : List Ob} {k : LAct → List Ob → Prop} {cs : List Prop}

theorem ops_run (h : runOps P all none (o :: rest) a H [] = .mk cs rest' a' H') (_hp : ltLen rest' (o :: rest) = true) (hc : AllP cs) (hk : evOps cl P all rest' a' H' k) : evOps cl P all (o :: rest) a H k :=
  (runOps_sound h hc).2 hk
theorem ops_lit {j : Nat} {w r : Bool} (_hg : o.guard = some (j, w)) (_hb : gB o all a = some r) (h : runOps P all (some j) (o :: rest) a H [] = .mk cs rest' a' H') (_hp : ltLen rest' (o :: rest) = true) (hc : AllP cs) (hk : evOps cl P all rest' a' H' k) : evOps cl P all (o :: rest) a H k :=
  (runOps_sound h hc).2 hk
theorem ops_by {d : Tmp} {b want r : Bool} (h : gD o all a = some (d, b, want)) (hb : b = r) (ha : putG a (some d) (.bool r) some = some a') (hk : evOps cl P all (o :: rest) a' H k) : evOps cl P all (o :: rest) a H k := by
  subst hb
  rw [putG_eq] at ha
  injection ha with ha
  rw [evOps_cons] at hk ⊢
  have hs : a' = a := by
    rw [← ha]
    refine put_self ?_
    unfold gD at h
    split at h
    · simp at h
    · split at h <;> try (simp at h; done)
      split at h <;> try (simp at h; done)
      split at h <;> try (simp at h; done)
      rename_i h3
      simp at h; obtain ⟨rfl, rfl, _⟩ := h; exact h3
  rw [hs] at hk; exact hk
theorem ops_split {d : Tmp} {b want : Bool} {a1 a2 : LAct} (h : gD o all a = some (d, b, want)) (ha1 : putG a (some d) (.bool true) some = some a1) (ha2 : putG a (some d) (.bool false) some = some a2)
    (h1 : b = true → evOps cl P all (o :: rest) a1 H k) (h2 : b = false → evOps cl P all (o :: rest) a2 H k) : evOps cl P all (o :: rest) a H k := by
  cases b
  · exact ops_by h rfl ha2 (h2 rfl)
  · exact ops_by h rfl ha1 (h1 rfl)
theorem ops_nil (hk : k a H) : evOps cl P all [] a H k := hk

/-- What follows a call: its value is kept, the operations go on. -/
def aft (cl : V → List V → List Ob → Cont → Prop) (P : Program) (all rest : List Oper) (dst : Option Tmp) (a : LAct) (k : LAct → List Ob → Prop) : Cont := fun v H' => evOps cl P all rest (a.put dst v) H' k
def norm2 (a : LAct) (dst : Option Tmp) (v : V) (H : List Ob) : LAct × List Ob := fD v fun v => fH H fun H => putG a dst v fun a => (a, H)
theorem aft_go {dst : Option Tmp} {v : V} {H2 : List Ob} (h : norm2 a dst v H = (a', H2)) (hk : evOps cl P all rest a' H2 k) : aft cl P all rest dst a k v H := by
  simp only [norm2, fD_eq, fH_eq, putG_eq, Prod.mk.injEq] at h
  obtain ⟨rfl, rfl⟩ := h
  exact hk
theorem ops_step (hg : gB o all a = some true) (h : stepK cl P o.op a H (aft cl P all rest o.dst a k)) : evOps cl P all (o :: rest) a H k := by
  rw [evOps_cons]
  refine guardK_B hg ?_
  dsimp only
  have e : (fun v H' => frcV v fun v => putK a o.dst v fun a => evOps cl P all rest a H' k) = aft cl P all rest o.dst a k := by
    funext v H'; simp only [frcV_iff, putK_iff, aft]
  rw [e]; exact h
end lemmas

def bodyOf (P : Program) (f : FuncId) : Option (Func × Code) :=
  match P.funcs.toList[f]? with
  | some fn => match fn.body with
    | some c => some (fn, c)
    | none => none
  | none => none

/-- What is called: a function, and with what. -/
def target (P : Program) (op : Op) (a : LAct) : Option (FuncId × List V) :=
  match op with
  | .call { callee := .value f, args, argTypes := _ } => match a.ev f with
    | some (.func (.func g) first cap) => match a.evs args.toList with
      | some vs => fL first fun first => fDs (first ++ vs ++ cap) fun x => some (g, x)
      | none => none
    | _ => none
  | .call { callee := .invoke r name, args, argTypes := _ } => match a.ev r with
    | some (.iface t v) => match a.evs args.toList with
      | some vs => match methodV P t v name with
        | some (f, u) => fDs (u :: vs) fun x => some (f, x)
        | none => none
      | none => none
    | _ => none
  | _ => none

section calls
variable {P : Program} {n : Nat} {op : Op} {a : LAct} {H : List Ob} {k : Cont} {f : FuncId} {x : List V}
theorem call_at (ht : target P op a = some (f, x)) (hb : (bodyOf P f).isSome = true) (h : AtCall (∃ C, Sound P f C ∧ C x H k) (inlineK P (evC P n) f x H k)) : stepK (callK P (evC P n)) P op a H k := by
  have hb' : ∃ fn c, P.funcs.toList[f]? = some fn ∧ fn.body = some c := by
    unfold bodyOf at hb
    split at hb <;> try (simp at hb; done)
    rename_i fn h1
    split at hb <;> try (simp at hb; done)
    rename_i c h2
    exact ⟨fn, c, h1, h2⟩
  obtain ⟨fn, c, hf, hc⟩ := hb'
  have hcall : ∀ first vs cap, first ++ vs ++ cap = x → callK P (evC P n) (.func (.func f) first cap) vs H k := by
    intro first vs cap hx
    simp only [callK, hf, hc]
    rw [appF_iff, appF_iff]
    rw [hx]
    rcases h with h | h
    · refine .law ?_
      obtain ⟨C, h1, h2⟩ := h
      refine ⟨C, h1, ?_⟩
      have e2 : (fun v H' => frcH H' fun H' => frcD v fun v => k v H') = k := by funext v H'; simp only [frcH_iff, frcD_iff]
      rw [e2]; exact h2
    · exact .text h
  unfold target at ht
  unfold stepK
  split at ht
  · rename_i g args ts
    dsimp only
    split at ht <;> try (simp at ht; done)
    rename_i g' first cap h1
    rw [h1]; dsimp only
    split at ht <;> try (simp at ht; done)
    rename_i vs h2
    rw [h2]; dsimp only
    rw [fL_eq, fDs_eq] at ht
    simp at ht
    obtain ⟨rfl, rfl⟩ := ht
    exact hcall first vs cap (by simp)
  · rename_i r name args ts
    dsimp only
    split at ht <;> try (simp at ht; done)
    rename_i t v h1
    rw [h1]; dsimp only
    split at ht <;> try (simp at ht; done)
    rename_i vs h2
    rw [h2]; dsimp only
    split at ht <;> try (simp at ht; done)
    rename_i f' u h3
    rw [h3]; dsimp only
    rw [fDs_eq] at ht
    simp at ht
    obtain ⟨rfl, rfl⟩ := ht
    exact hcall [] (u :: vs) [] (by simp)
  · simp at ht
theorem call_law {C : List V → List Ob → Cont → Prop} (hs : Sound P f C) (ht : target P op a = some (f, x)) (hb : (bodyOf P f).isSome = true) (h : C x H k) : stepK (callK P (evC P n)) P op a H k :=
  call_at ht hb (.law ⟨C, hs, h⟩)
def frameOf (fn : Func) (x : List V) : Option (List V) := fL (x ++ List.replicate (fn.ntmps - x.length) (.tup [])) some
theorem inline_go {fn : Func} {c : Code} {ts : List V} (hb : bodyOf P f = some (fn, c)) (hts : frameOf fn x = some ts) (h : evC P n none c (retK P fn k) ⟨ts, []⟩ H) : inlineK P (evC P n) f x H k := by
  unfold bodyOf at hb
  split at hb <;> try (simp at hb; done)
  rename_i fn' h1
  split at hb <;> try (simp at hb; done)
  rename_i c' h2
  simp at hb; obtain ⟨rfl, rfl⟩ := hb
  simp only [inlineK, h1, h2, frcL_iff]
  simp only [frameOf, fL_eq, Option.some.injEq] at hts
  rw [hts]; exact h
theorem call_text {fn : Func} {c : Code} {ts : List V} (ht : target P op a = some (f, x)) (hb : bodyOf P f = some (fn, c)) (hts : frameOf fn x = some ts) (h : evC P n none c (retK P fn k) ⟨ts, []⟩ H) : stepK (callK P (evC P n)) P op a H k :=
  call_at ht (by rw [hb]; rfl) (.text (inline_go hb hts h))
theorem evF_go {fn : Func} {c : Code} {ts : List V} (hb : bodyOf P f = some (fn, c)) (hts : frameOf fn x = some ts) (h : evC P n none c (retK P fn k) ⟨ts, []⟩ H) : evF P n f x H k := inline_go hb hts h
end calls

/-! ### Code -/
def nrm (Q : Post) : LAct → List Ob → Prop := fun a H => Q .normal a H
section code
variable {P : Program} {n : Nat} {rd : Option Nat} {Q : Post} {next : LAct → List Ob → Prop} {a a' : LAct} {H H' : List Ob} {x y : Code} {c : Operand} {b : Bool} {id id' i : Nat} {ops : Array Oper} {l : List Oper}
theorem c_skip (h : Q .normal a H) : evC P (n + 1) rd .skip Q a H := .go h
theorem c_label (h : Q .normal a H) : evC P (n + 1) rd (.label i) Q a H := .go h
theorem c_ret (h : Q .ret a H) : evC P (n + 1) rd .ret Q a H := .go h
theorem c_exit (h : Q (.exit id) a H) : evC P (n + 1) rd (.exit id) Q a H := .go h
theorem c_seq (h : evC P n rd x (thenL (evC P n rd y Q) Q) a H) : evC P (n + 1) rd (.seq x y) Q a H := .go h
theorem c_block (h : evC P n rd x (inBlockL id Q) a H) : evC P (n + 1) rd (.block id x) Q a H := .go h
theorem c_region (hl : fL ops.toList some = some l) (h : evOps (callK P (evC P n)) P l l a H (nrm Q)) : evC P (n + 1) rd (.region i ops false) Q a H := by
  rw [fL_eq] at hl; injection hl with hl; subst hl; exact .go h
theorem c_draw {m : Nat} (hl : fL ops.toList some = some l) (hm : nF l.length 0 some = some m) (hf : freeAll ops 0 ops.toList = true) (h : evDraw (callK P (evC P n)) P l m [] [] a H (nrm Q)) : evC P (n + 1) rd (.region i ops true) Q a H := by
  rw [fL_eq] at hl; injection hl with hl; subst hl
  rw [nF_eq, Nat.zero_add] at hm; injection hm with hm; subst hm
  refine .go ?_
  simp only [hf]; exact h
theorem c_t (hv : a.ev c = some (.bool true)) (h : evC P n rd x Q a H) : evC P (n + 1) rd (.cond c x y) Q a H := by refine .go ?_; simp only [hv]; exact h
theorem c_f (hv : a.ev c = some (.bool false)) (h : evC P n rd y Q a H) : evC P (n + 1) rd (.cond c x y) Q a H := by refine .go ?_; simp only [hv]; exact h
theorem c_byt (hv : a.ev c = some (.bool b)) (hb : b = true) (h : evC P n rd x Q a H) : evC P (n + 1) rd (.cond c x y) Q a H := by subst hb; exact c_t hv h
theorem c_byf (hv : a.ev c = some (.bool b)) (hb : b = false) (h : evC P n rd y Q a H) : evC P (n + 1) rd (.cond c x y) Q a H := by subst hb; exact c_f hv h
theorem c_split (hv : a.ev c = some (.bool b)) (h1 : b = true → evC P n rd x Q a H) (h2 : b = false → evC P n rd y Q a H) : evC P (n + 1) rd (.cond c x y) Q a H := by
  cases b
  · exact c_f hv (h2 rfl)
  · exact c_t hv (h1 rfl)
theorem p_then_n (h : next a H) : thenL next Q .normal a H := h
theorem p_then_e (h : Q (.exit id) a H) : thenL next Q (.exit id) a H := h
theorem p_then_r (h : Q .ret a H) : thenL next Q .ret a H := h
theorem p_blk_n (h : Q .normal a H) : inBlockL id Q .normal a H := h
theorem p_blk_r (h : Q .ret a H) : inBlockL id Q .ret a H := h
theorem p_blk_hit (he : Nat.beq id' id = true) (h : Q .normal a H) : inBlockL id Q (.exit id') a H := by simp only [inBlockL, he]; exact h
theorem p_blk_miss (he : Nat.beq id' id = false) (h : Q (.exit id') a H) : inBlockL id Q (.exit id') a H := by simp only [inBlockL, he]; exact h
theorem p_nrm (h : Q .normal a H) : nrm Q a H := h

def retD (P : Program) (fn : Func) (a : LAct) (H : List Ob) : Option (List Prop × V × List Ob) :=
  match killDfs H a.dfs with
  | some H' => fL H' fun H' => match resV P H' a fn.results.toList with
    | some (c, vs) => fD (oneRes vs) fun v => some (addC c [], v, H')
    | none => none
  | none => none
theorem retD_sound {fn : Func} {k : Cont} {cs : List Prop} {v : V} (h : retD P fn a H = some (cs, v, H')) (hc : AllP cs) (hk : k v H') : retK P fn k .ret a H ∧ retK P fn k .normal a H := by
  unfold retD at h
  split at h <;> try (simp at h; done)
  rename_i H2 h1
  rw [fL_eq] at h
  split at h <;> try (simp at h; done)
  rename_i c vs h2
  rw [fD_eq] at h
  simp at h; obtain ⟨rfl, rfl, rfl⟩ := h
  simp only [retK, h1, frcL_iff, h2]
  cases c with
  | none => simp only [frcV_iff]; exact ⟨hk, hk⟩
  | some c => simp only [frcV_iff]; exact ⟨⟨hc, hk⟩, ⟨hc, hk⟩⟩
theorem p_ret {fn : Func} {k : Cont} {cs : List Prop} {v : V} (h : retD P fn a H = some (cs, v, H')) (hc : AllP cs) (hk : k v H') : retK P fn k .ret a H := (retD_sound h hc hk).1
theorem p_ret_n {fn : Func} {k : Cont} {cs : List Prop} {v : V} (h : retD P fn a H = some (cs, v, H')) (hc : AllP cs) (hk : k v H') : retK P fn k .normal a H := (retD_sound h hc hk).2
end code

/-! ### Effects that leave something open -/
section opens
variable {P : Program} {cl : V → List V → List Ob → Cont → Prop} {a : LAct} {H : List Ob} {k : Cont}
def okV (ok : Bool) (v : V) (b : Bool) : V := match ok with
  | true => .tup [v, .bool b]
  | false => v
def lookD (P : Program) (t : TypeId) (m i : Operand) (a : LAct) (H : List Ob) : Option (V × List IntKind × (Int → Option (Nat → Int)) × Int) :=
  match P.underlying t with
  | some (.map kt el) => match P.underlying kt with
    | some (.int .i64) => match zeroV P el with
      | some z => match a.ev i with
        | some (.int .i64 n) => match a.ev m with
          | some (.map l) => match H[l]? with
            | some (.mp ks f) => some (z, ks, f, n)
            | _ => none
          | _ => none
        | _ => none
      | none => none
    | _ => none
  | _ => none
theorem look_go {t : TypeId} {m i : Operand} {ok : Bool} {z : V} {ks : List IntKind} {f : Int → Option (Nat → Int)} {n : Int} (h : lookD P t m i a H = some (z, ks, f, n))
    (h1 : ∀ g, f n = some g → k (okV ok (.agg (kvals ks 0 g)) true) H) (h2 : f n = none → k (okV ok z false) H) :
    stepK cl P (.lookup t m i ok) a H k := by
  refine stepK_op (opK_e (by simp [qV]) ?_)
  unfold lookD at h
  simp only [effK]
  split at h <;> try (simp at h; done)
  rename_i g1
  split at h <;> try (simp at h; done)
  rename_i g2
  split at h <;> try (simp at h; done)
  rename_i g3
  split at h <;> try (simp at h; done)
  rename_i g4
  split at h <;> try (simp at h; done)
  rename_i g5
  split at h <;> try (simp at h; done)
  rename_i g6
  simp at h; obtain ⟨rfl, rfl, rfl, rfl⟩ := h
  simp only [g5, g4, lookupK, g1, g2, g3, g6]
  exact ⟨h1, h2⟩
end opens

/-! ### A contract's end -/
def noLabD (n : Nat) : List Col → List Prop
  | [] => []
  | .val f :: cs => (∀ i, i < n → lab 0 (f i) = true) :: noLabD n cs
  | .int _ _ :: cs => noLabD n cs
  | .bool _ :: cs => noLabD n cs
  | .str _ :: cs => noLabD n cs
theorem noLabD_sound {n : Nat} : ∀ {cs : List Col}, AllP (noLabD n cs) → noLab n cs
  | [], _ => trivial
  | .val f :: cs, h => by
    obtain ⟨h1, h2⟩ := AllP_cons.1 h
    exact ⟨h1, noLabD_sound h2⟩
  | .int _ _ :: cs, h => noLabD_sound (cs := cs) h
  | .bool _ :: cs, h => noLabD_sound (cs := cs) h
  | .str _ :: cs, h => noLabD_sound (cs := cs) h
def obD (all : List (Option Nat)) : Ob → Option (List Prop)
  | .mem _ _ pre n cols => match labSs all pre with
    | true => some (noLabD n cols)
    | false => none
  | .loop _ _ ts _ _ _ d => match labSs all ts with
    | true => match inS all d with
      | true => some []
      | false => none
    | false => none
  | .mp _ _ => some []
  | .dfr => some []
  | .dead => some []
def obsD (all : List (Option Nat)) (H : List Ob) : List (Option Nat) → Option (List Prop)
  | [] => some []
  | none :: ss => obsD all H ss
  | some q :: ss => match H[q]? with
    | some o => match obD all o with
      | some cs => match obsD all H ss with
        | some ds => some (cs ++ ds)
        | none => none
      | none => none
    | none => none
theorem obsD_sound {all : List (Option Nat)} {H : List Ob} : ∀ {ss : List (Option Nat)} {cs : List Prop}, obsD all H ss = some cs → AllP cs → obsS all H ss
  | [], _, _, _ => trivial
  | none :: ss, cs, h, hc => obsD_sound (ss := ss) h hc
  | some q :: ss, cs, h, hc => by
    simp only [obsD] at h
    simp only [obsS]
    split at h <;> try (simp at h; done)
    rename_i o ho
    rw [ho]; dsimp only
    split at h <;> try (simp at h; done)
    rename_i c1 h1
    split at h <;> try (simp at h; done)
    rename_i c2 h2
    simp at h; subst h
    obtain ⟨a1, a2⟩ := AllP_app.1 hc
    refine ⟨?_, obsD_sound h2 a2⟩
    cases o with
    | mem own ty pre n cols =>
      simp only [obD] at h1
      split at h1 <;> try (simp at h1; done)
      rename_i hl
      simp at h1; subst h1
      exact ⟨hl, noLabD_sound a1⟩
    | loop st pd ts ps as bd d =>
      simp only [obD] at h1
      split at h1 <;> try (simp at h1; done)
      rename_i hl
      split at h1 <;> try (simp at h1; done)
      rename_i hd
      exact ⟨hl, hd⟩
    | mp _ _ => trivial
    | dfr => trivial
    | dead => trivial
def endD (N : Nat) (src : List (Option Nat)) (v : V) (H : List Ob) : Option (List Prop × V × List Ob) :=
  match srcA N 0 src with
  | true => match Nat.ble N src.length with
    | true => match obsD src H src with
      | some cs => match labS src v with
        | true => fD (ren (rmap src) v) fun v => fH (mvH src H src) fun H => some (cs, v, H)
        | false => none
      | none => none
    | false => none
  | false => none
theorem gcS_go {N : Nat} {k : Cont} {v v' : V} {H H' : List Ob} {cs : List Prop} (src : List (Option Nat)) (h : endD N src v H = some (cs, v', H')) (hc : AllP cs) (hk : k v' H') : gcS N k v H := by
  unfold endD at h
  split at h <;> try (simp at h; done)
  rename_i h1
  split at h <;> try (simp at h; done)
  rename_i h2
  split at h <;> try (simp at h; done)
  rename_i ds h3
  split at h <;> try (simp at h; done)
  rename_i h4
  rw [fD_eq, fH_eq] at h
  simp at h
  obtain ⟨rfl, rfl, rfl⟩ := h
  exact ⟨src, h1, Nat.le_of_ble_eq_true h2, obsD_sound h3 hc, h4, hk⟩

/-! ### nil told as a row -/
def convD (gs : List (TypeId × List Col)) (ts : List (Option Nat)) (os : List (Nat × List (Option Nat))) (a : LAct) (H : List Ob) : Option (LAct × List Ob) :=
  match okN (H.length + gs.length) ts with
  | true => match okNs (H.length + gs.length) os with
    | true => fL (nilS ts a.tmps) fun ts => fH (nilH os (H ++ ghosts gs)) fun H => some (⟨ts, a.dfs⟩, H)
    | false => none
  | false => none
theorem c_conv {P : Program} {n : Nat} {rd : Option Nat} {code : Code} {Q : Post} {a a' : LAct} {H H' : List Ob} (gs : List (TypeId × List Col)) (ts : List (Option Nat)) (os : List (Nat × List (Option Nat))) (h : convD gs ts os a H = some (a', H'))
    (hk : evC P n rd code Q a' H') : evC P (n + 1) rd code Q a H := by
  unfold convD at h
  split at h <;> try (simp at h; done)
  rename_i h1
  split at h <;> try (simp at h; done)
  rename_i h2
  rw [fL_eq, fH_eq] at h
  simp at h
  obtain ⟨rfl, rfl⟩ := h
  exact .row ⟨gs, ts, os, h1, h2, hk⟩

/-! ### Loops -/
def insD (src : List (Option Nat)) : List Nat → Bool
  | [] => true
  | d :: ds => match inS src d with
    | true => insD src ds
    | false => false
theorem insD_all {src : List (Option Nat)} : ∀ {ds : List Nat}, insD src ds = true → ∀ d ∈ ds, inS src d = true
  | [], _, d, hd => by cases hd
  | x :: ds, h, d, hd => by
    simp only [insD] at h
    split at h <;> try (simp at h; done)
    rename_i hx
    rcases List.mem_cons.1 hd with rfl | hd
    · exact hx
    · exact insD_all h d hd
def moveD (N : Nat) (keep : List Bool) (src : List (Option Nat)) (rw : Nat → Value) (a : LAct) (H : List Ob) : Option (List Prop × LAct × List Ob) :=
  match srcA N 0 src with
  | true => match Nat.ble N src.length with
    | true => match obsD src H src with
      | some cs => match tmpsS src keep a.tmps with
        | true => match insD src a.dfs with
          | true => fDs (scrS src rw 0 keep a.tmps) fun ts => fL (a.dfs.map (rmap src)) fun ds => fH (mvH src H src) fun H => some (cs, ⟨ts, ds⟩, H)
          | false => none
        | false => none
      | none => none
    | false => none
  | false => none
theorem gcM_go {N : Nat} {a : LAct} {H : List Ob} {k : LAct → List Ob → Prop} (h : ∀ rw : Nat → Value, ∃ (keep : List Bool) (src : List (Option Nat)) (cs : List Prop) (a' : LAct) (H' : List Ob), moveD N keep src rw a H = some (cs, a', H') ∧ AllP cs ∧ k a' H') : gcM N a H k := by
  intro rw
  obtain ⟨keep, src, cs, a', H', h, hc, hk⟩ := h rw
  unfold moveD at h
  split at h <;> try (simp at h; done)
  rename_i h1
  split at h <;> try (simp at h; done)
  rename_i h2
  split at h <;> try (simp at h; done)
  rename_i ds h3
  split at h <;> try (simp at h; done)
  rename_i h4
  split at h <;> try (simp at h; done)
  rename_i h5
  rw [fDs_eq, fL_eq, fH_eq] at h
  simp at h
  obtain ⟨rfl, rfl, rfl⟩ := h
  exact ⟨keep, src, h1, Nat.le_of_ble_eq_true h2, obsD_sound h3 hc, h4, insD_all h5, hk⟩
/-- Round again: what holds, with less to go. -/
def again (N : Nat) (I : Nat → LAct → List Ob → Prop) (m : Nat) : LAct → List Ob → Prop := fun a' H' => gcM N a' H' fun a' H' => ∃ m', m' < m ∧ I m' a' H'
theorem c_loop {P : Program} {n : Nat} {rd : Option Nat} {body : Code} {Q : Post} {a : LAct} {H : List Ob} (N : Nat) (I : Nat → LAct → List Ob → Prop) (m : Nat) (hN : H.length = N) (h0 : gcM N a H (I m))
    (hs : ∀ m a' H', I m a' H' → evC P n rd body (thenL (again N I m) Q) a' H') : evC P (n + 1) rd (.loop body) Q a H := by
  subst hN
  exact .go (AtLoop.stays ⟨I, m, h0, hs⟩)
theorem again_go {N : Nat} {I : Nat → LAct → List Ob → Prop} {m : Nat} {a : LAct} {H : List Ob} (h : ∀ rw : Nat → Value, ∃ (keep : List Bool) (src : List (Option Nat)) (cs : List Prop) (a' : LAct) (H' : List Ob), moveD N keep src rw a H = some (cs, a', H') ∧ AllP cs ∧ ∃ m', m' < m ∧ I m' a' H') : again N I m a H :=
  gcM_go h
theorem c_turn {P : Program} {n : Nat} {rd : Option Nat} {body : Code} {Q : Post} {a : LAct} {H : List Ob} (h : evC P n rd body (thenL (evC P n rd (.loop body) Q) Q) a H) : evC P (n + 1) rd (.loop body) Q a H := .go (AtLoop.turn h)
end Go.Proofs.YtonohiifmepjfaaDoor.Ev
