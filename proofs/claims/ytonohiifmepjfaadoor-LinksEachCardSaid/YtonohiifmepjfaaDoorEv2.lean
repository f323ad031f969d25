/-
  Own framework, part 2: operations that only read.
-/
import Derived.Test.YtonohiifmepjfaaDoorEv1
namespace Go.Proofs.YtonohiifmepjfaaDoor.Ev
open Go Go.RowKit

structure LAct where
  tmps : List V
  dfs : List Nat

def LAct.conc (E : Env) (a : LAct) : Act :=
  { tmps := (embs E a.tmps).toArray, defers := a.dfs.map fun d => { target := .collected (E d).block, args := #[] } }

def ActOk (E : Env) (N : Nat) (a : LAct) : Prop := WFs E N a.tmps ∧ ∀ d ∈ a.dfs, d < N

def cv1 : Value → Option V
  | .bool b => some (.bool b)
  | .int k n => some (.int k n)
  | .string s => some (.str s)
  | .pointer none => some .nilp
  | .slice none 0 0 => some .nils
  | .map none => some .nilm
  | .nilIface => some .nili
  | .nilFunc => some .nilf
  | _ => none

def cvs : List Value → Option (List V)
  | [] => some []
  | v :: vs => match cv1 v with
    | some x => match cvs vs with
      | some xs => some (x :: xs)
      | none => none
    | none => none

def cv : Value → Option V
  | .agg cs => match cvs cs.toList with
    | some xs => some (.agg xs)
    | none => none
  | .tuple vs => match vs.toList with
    | [] => some (.tup [])
    | _ => none
  | v => cv1 v

theorem cv1_emb {E : Env} {N : Nat} {v : Value} {x : V} (h : cv1 v = some x) : v = emb E x ∧ WF E N x ∧ x.one = true := by
  unfold cv1 at h
  split at h <;> simp at h <;> subst h <;> simp [emb, WF, V.one]

theorem cvs_emb {E : Env} {N : Nat} : ∀ {vs : List Value} {xs : List V}, cvs vs = some xs → vs = embs E xs ∧ WFs E N xs ∧ ∀ x ∈ xs, x.one = true
  | [], xs, h => by simp [cvs] at h; subst h; simp [embs, WFs]
  | v :: vs, xs, h => by
    simp only [cvs] at h
    split at h
    · rename_i x hx
      split at h
      · rename_i ys hy
        simp at h; subst h
        obtain ⟨a1, a2, a3⟩ := cv1_emb (E := E) (N := N) hx
        obtain ⟨b1, b2, b3⟩ := cvs_emb (E := E) (N := N) hy
        refine ⟨by simp only [embs]; rw [← a1, ← b1], ⟨a2, b2⟩, fun y hy => ?_⟩
        rcases List.mem_cons.1 hy with rfl | hy
        · exact a3
        · exact b3 y hy
      · simp at h
    · simp at h

theorem cv_emb {E : Env} {N : Nat} {v : Value} {x : V} (h : cv v = some x) : v = emb E x ∧ WF E N x := by
  unfold cv at h
  split at h
  · rename_i cs
    split at h
    · rename_i xs hx
      simp at h; subst h
      obtain ⟨a1, a2, _⟩ := cvs_emb (E := E) (N := N) hx
      refine ⟨?_, a2⟩
      simp only [emb]; rw [← a1]
    · simp at h
  · rename_i vs
    split at h
    · rename_i hv
      simp at h; subst h
      refine ⟨?_, by simp [WF, WFs]⟩
      simp only [emb, embs]
      have : vs = #[] := by
        apply Array.ext'
        simpa using hv
      rw [this]
    · simp at h
  · exact ⟨(cv1_emb (E := E) (N := N) h).1, (cv1_emb (E := E) (N := N) h).2.1⟩

def LAct.ev (a : LAct) : Operand → Option V
  | .tmp t => match a.tmps[t]? with
    | some v => some v
    | none => none
  | .const v => cv v
  | .global g => some (.raw (.pointer (some ⟨g, 0, none⟩)))
  | .func f => some (.func (.func f) [] [])

theorem ev_eval {E : Env} {N : Nat} {a : LAct} (ha : ActOk E N a) {x : Operand} {v : V} (h : a.ev x = some v) : (a.conc E).eval x = emb E v ∧ WF E N v := by
  cases x with
  | tmp t =>
    simp only [LAct.ev] at h
    split at h
    · rename_i u hu
      simp at h; subst h
      refine ⟨?_, (WFs_iff.1 ha.1) u (List.mem_of_getElem? hu)⟩
      simp only [Act.eval, LAct.conc]
      simp [embs_eq, hu]
    · simp at h
  | const c => exact cv_emb h
  | global g => simp only [LAct.ev, Option.some.injEq] at h; subst h; simp [Act.eval, emb, WF]
  | func f => simp only [LAct.ev, Option.some.injEq] at h; subst h; simp [Act.eval, emb, embs, WF, WFs]

def LAct.put : LAct → Option Tmp → V → LAct
  | ⟨ts, ds⟩, some t, v => ⟨ts.set t v, ds⟩
  | a, none, _ => a

theorem put_conc {E : Env} {a : LAct} {d : Option Tmp} {v : V} : (a.put d v).conc E = (a.conc E).put d (emb E v) := by
  cases d with
  | none => rfl
  | some t =>
    simp only [LAct.put, LAct.conc, Act.put]
    congr 1
    apply Array.ext'
    simp [embs_eq, List.map_set]

theorem put_ok {E : Env} {N : Nat} {a : LAct} (ha : ActOk E N a) {d : Option Tmp} {v : V} (hv : WF E N v) : ActOk E N (a.put d v) := by
  cases d with
  | none => exact ha
  | some t =>
    refine ⟨WFs_iff.2 fun u hu => ?_, ha.2⟩
    rcases List.mem_or_eq_of_mem_set hu with h | h
    · exact (WFs_iff.1 ha.1) u h
    · subst h; exact hv

/-! ### Types -/
def isAggO (P : Program) (t : TypeId) : Option Bool :=
  match P.underlying t with
  | some (.struct _) | some (.array _ _) => some true
  | some _ => some false
  | none => none
def szOf (P : Program) (t : TypeId) : Option Nat :=
  match P.info? t with
  | some i => some i.size
  | none => none
def zeroV (P : Program) (t : TypeId) : Option V :=
  match P.info? t with
  | some i => match i.zero with
    | some z => cv z
    | none => none
  | none => none

section
variable {P : Program} {E : Env} {w : World} {t : TypeId}
theorem run_sizeOf' {n : Nat} (h : szOf P t = some n) : (sizeOf t).run P w = .ok n w := by
  unfold szOf at h
  split at h
  · rename_i i hi
    simp at h; subst h
    simp [sizeOf, typeInfo, hi]
  · simp at h
theorem run_zeroValue' {N : Nat} {z : V} (h : zeroV P t = some z) : (zeroValue t).run P w = .ok (emb E z) w ∧ WF E N z := by
  unfold zeroV at h
  split at h
  · rename_i i hi
    split at h
    · rename_i v hv
      obtain ⟨a1, a2⟩ := cv_emb (E := E) (N := N) h
      refine ⟨?_, a2⟩
      simp [zeroValue, typeInfo, hi, hv, a1]
    · simp at h
  · simp at h
theorem run_isAgg' {b : Bool} (h : isAggO P t = some b) : (isAgg t).run P w = .ok b w := by
  unfold isAggO at h
  split at h <;> simp at h <;> subst h
  · rename_i h1; simp [isAgg, run_underlying h1]
  · rename_i h1; simp [isAgg, run_underlying h1]
  · rename_i d h1 h2 h3
    unfold isAgg
    simp only [Sem.run_bind, run_underlying h3, Result.andThen_ok]
    cases d <;> simp_all
end

/-! ### What a quiet operation says: a condition, and a value -/
abbrev Cond := Option Prop
def Cond.holds : Cond → Prop
  | none => True
  | some p => p
def Cond.and : Cond → Cond → Cond
  | none, c => c
  | some p, none => some p
  | some p, some q => some (p ∧ q)
theorem Cond.and_holds {c d : Cond} (h : (c.and d).holds) : c.holds ∧ d.holds := by
  cases c <;> cases d <;> simp_all [Cond.and, Cond.holds]

abbrev QR := Option (Cond × V)
@[reducible] def qok (v : V) : QR := some (none, v)
@[reducible] def qif (p : Prop) (v : V) : QR := some (some p, v)

/-! ### Reading cells -/
def cellV (n e : Nat) : List V → List Col → Nat → QR
  | v :: _, _, 0 => match e with
    | 0 => qok v
    | _ => none
  | _ :: pre, cols, c + 1 => cellV n e pre cols c
  | [], col :: _, 0 => qif (e < n) (col.at e)
  | [], _ :: cols, c + 1 => cellV n e [] cols c
  | [], [], _ => none

theorem cellV_cols {n e : Nat} : ∀ {cols : List Col} {c : Nat} {vc : Cond} {v : V}, cellV n e [] cols c = some (vc, v) →
    ∃ col, cols[c]? = some col ∧ v = col.at e ∧ vc = some (e < n)
  | [], c, vc, v, h => by cases c <;> simp [cellV] at h
  | col :: cols, 0, vc, v, h => by simp [cellV] at h; exact ⟨col, rfl, h.2.symm, h.1.symm⟩
  | col :: cols, c + 1, vc, v, h => by
    simp only [cellV] at h
    obtain ⟨x, h1, h2, h3⟩ := cellV_cols h
    exact ⟨x, by simpa using h1, h2, h3⟩

theorem cellV_some {n e : Nat} {cols : List Col} : ∀ {pre : List V} {c : Nat} {vc : Cond} {v : V}, cellV n e pre cols c = some (vc, v) →
    (pre[c]? = some v ∧ e = 0) ∨ (∃ j, c = pre.length + j ∧ ∃ col, cols[j]? = some col ∧ v = col.at e ∧ vc = some (e < n))
  | [], c, vc, v, h => by
    obtain ⟨x, h1, h2, h3⟩ := cellV_cols h
    exact .inr ⟨c, by simp, x, h1, h2, h3⟩
  | u :: pre, 0, vc, v, h => by
    cases e with
    | zero => simp [cellV] at h; exact .inl ⟨by simp [h.2], rfl⟩
    | succ e => simp [cellV] at h
  | u :: pre, c + 1, vc, v, h => by
    simp only [cellV] at h
    rcases cellV_some h with h1 | ⟨j, hj, h2⟩
    · exact .inl (by simpa using h1)
    · exact .inr ⟨j, by simp; omega, h2⟩

theorem cellV_sound {E : Env} {N : Nat} {w : World} {L : Loc} {own : Bool} {ty : TypeId} {pre : List V} {n e c : Nat} {cols : List Col} {vc : Cond} {v : V}
    (hr : RepOb E N w L (.mem own ty pre n cols)) (h : cellV n e pre cols c = some (vc, v)) (hc : vc.holds) :
    w.cell? (L.at e c) = some (emb E v) ∧ v.one = true ∧ WF E N v := by
  obtain ⟨_, _, h3, h4, _⟩ := hr
  rcases cellV_some h with ⟨h1, rfl⟩ | ⟨j, rfl, col, h1, rfl, rfl⟩
  · exact h3 c v h1
  · exact h4 e hc j col h1

def gath (n e : Nat) (pre : List V) (cols : List Col) : Nat → Nat → Option (Cond × List V)
  | _, 0 => some (none, [])
  | c, s + 1 => match cellV n e pre cols c with
    | some (vc, v) => match gath n e pre cols (c + 1) s with
      | some (vd, vs) => some (vc.and vd, v :: vs)
      | none => none
    | none => none

theorem gath_sound {E : Env} {N : Nat} {w : World} {L : Loc} {own : Bool} {ty : TypeId} {pre : List V} {n e : Nat} {cols : List Col}
    (hr : RepOb E N w L (.mem own ty pre n cols)) : ∀ {s c : Nat} {vc : Cond} {vs : List V}, gath n e pre cols c s = some (vc, vs) → vc.holds →
    vs.length = s ∧ (∀ j v, vs[j]? = some v → w.cell? (L.at e (c + j)) = some (emb E v) ∧ v.one = true ∧ WF E N v)
  | 0, c, vc, vs, h, _ => by simp [gath] at h; simp [h.2]
  | s + 1, c, vc, vs, h, hc => by
    simp only [gath] at h
    split at h
    · rename_i vc1 v1 h1
      split at h
      · rename_i vd vs1 h2
        simp at h
        obtain ⟨rfl, rfl⟩ := h
        obtain ⟨c1, c2⟩ := Cond.and_holds hc
        obtain ⟨g1, g2⟩ := gath_sound hr h2 c2
        refine ⟨by simp [g1], fun j v hj => ?_⟩
        cases j with
        | zero => simp at hj; subst hj; exact cellV_sound hr h1 c1
        | succ j =>
          have := g2 j v (by simpa using hj)
          rwa [show c + 1 + j = c + (j + 1) by omega] at this
      · simp at h
    · simp at h

theorem at_add (L : Loc) (e c n : Nat) : (L.at e c).add n = L.at e (c + n) := by
  unfold Addr.add Loc.at
  split
  · rename_i h; subst h; rfl
  · simp [Nat.add_assoc]

def loadV (P : Program) (t : TypeId) (H : List Ob) : V → QR
  | .ptr l e c => match H[l]? with
    | some (.mem _ _ pre n cols) => match isAggO P t with
      | some true => match szOf P t with
        | some s => match gath n e pre cols c s with
          | some (vc, vs) => some (vc, .agg vs)
          | none => none
        | none => none
      | some false => cellV n e pre cols c
      | none => none
    | _ => none
  | _ => none

theorem loadV_sound {P : Program} {E : Env} {H : List Ob} {w : World} {t : TypeId} {p v : V} {vc : Cond} (hr : Rep E H w) (h : loadV P t H p = some (vc, v)) (hc : vc.holds) :
    (Instr.loadAt t (emb E p)).run P w = .ok (emb E v) w ∧ WF E H.length v := by
  unfold loadV at h
  split at h
  · rename_i l e c
    split at h
    · rename_i own ty pre n cols hl
      have ho := hr.ob l _ hl
      split at h
      · rename_i hagg
        split at h
        · rename_i s hs
          split at h
          · rename_i vd vs hg
            simp at h
            obtain ⟨rfl, rfl⟩ := h
            obtain ⟨g1, g2⟩ := gath_sound ho hg hc
            have hwf : WFs E H.length vs := WFs_iff.2 fun v hv => (by
              obtain ⟨j, hj⟩ := List.getElem?_of_mem hv
              exact (g2 j v hj).2.2)
            refine ⟨?_, hwf⟩
            have hl : (loadCells ((E l).at e c) (embs E vs).length).run P w = .ok (embs E vs).toArray w := by
              refine run_loadCells_list (P := P) w _ _ fun j u hu => ?_
              rw [embs_eq, List.getElem?_map] at hu
              cases hj : vs[j]? with
              | none => simp [hj] at hu
              | some v =>
                simp [hj] at hu
                subst hu
                rw [at_add]
                exact (g2 j v hj).1
            have hlen : (embs E vs).length = s := by simp [embs_eq, g1]
            rw [hlen] at hl
            simp [Instr.loadAt, Instr.sureAddr, emb, loadVar, run_isAgg' hagg, run_sizeOf' hs, hl]
          · simp at h
        · simp at h
      · rename_i hagg
        obtain ⟨a1, a2, a3⟩ := cellV_sound ho h hc
        exact ⟨by simp [Instr.loadAt, Instr.sureAddr, emb, loadVar, run_isAgg' hagg, a1], a3⟩
      · simp at h
    · simp at h
  · simp at h
end Go.Proofs.YtonohiifmepjfaaDoor.Ev
