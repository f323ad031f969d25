/-
  Own framework, part 11: all operations that are no call of a Go function.
-/
import Derived.Test.YtonohiifmepjfaaDoorEv10
namespace Go.Proofs.YtonohiifmepjfaaDoor.Ev
open Go Go.RowKit

section
variable {P : Program} {E : Env} {H : List Ob} {w : World}

/-- An operation that acts (no call): what is to hold so that it ends in k. -/
def effK (P : Program) (op : Op) (a : LAct) (H : List Ob) (k : V → List Ob → Prop) : Prop :=
  match op with
  | .alloc t => allocK P t H k
  | .box t x => match a.ev x with
    | some v => boxK t v H k
    | none => False
  | .buildSlice t len ps => match a.evp ps.toList with
    | some ps => buildSliceK P t len ps H k
    | none => False
  | .makeMap t none => makeMapK P t H k
  | .makeSlice t n c => match a.ev n with
    | some n => match a.ev c with
      | some c => makeSliceK P t n c H k
      | none => False
    | none => False
  | .store t p x => match a.ev p with
    | some p => match a.ev x with
      | some x => match storeV P t H p x with
        | some (none, H') => k (.tup []) H'
        | some (some c, H') => c ∧ k (.tup []) H'
        | none => False
      | none => False
    | none => False
  | .lookup t m i ok => match a.ev m with
    | some m => match a.ev i with
      | some i => lookupK P t m i ok H k
      | none => False
    | none => False
  | .mapUpdate t m i x => match a.ev m with
    | some m => match a.ev i with
      | some i => match a.ev x with
        | some x => match mapUpdateV P t m i x H with
          | some H' => k (.tup []) H'
          | none => False
        | none => False
      | none => False
    | none => False
  | .call { callee := .builtin .append, args, argTypes } => match args.toList with
    | [s, x] => match argTypes.toList with
      | [t, t'] => match Nat.beq t t' with
        | true => match a.ev s with
          | some s => match a.ev x with
            | some x => appendK P t s x H k
            | none => False
          | none => False
        | false => False
      | _ => False
    | _ => False
  | _ => False

theorem eff_sound {o : Oper} {a : LAct} {k : V → List Ob → Prop} (hr : Rep E H w) (ha : ActOk E H.length a) (h : effK P o.op a H k) : EffOk P E H w (execOp (a.conc E).eval o) k := by
  unfold effK at h
  unfold execOp
  split at h
  case h_1 t hop =>
    rw [hop]; simp only
    exact alloc_sound hr h
  case h_2 t x hop =>
    rw [hop]; simp only
    split at h <;> try exact h.elim
    rename_i v hv
    obtain ⟨e1, e2⟩ := ev_eval ha hv
    rw [e1]
    exact box_sound hr e2 h
  case h_3 t len ps hop =>
    rw [hop]; simp only
    split at h <;> try exact h.elim
    rename_i ps' hps
    obtain ⟨p1, p2⟩ := evp_eval ha hps
    have e : ps.map (fun (i, x) => (i, (a.conc E).eval x)) = (ps'.map fun (i, v) => (i, emb E v)).toArray := by
      apply Array.ext'
      rw [← p1]; simp
    rw [e]
    exact buildSlice_sound hr p2 h
  case h_4 t hop =>
    rw [hop]; simp only
    exact makeMap_sound hr h
  case h_5 t n c hop =>
    rw [hop]; simp only
    split at h <;> try exact h.elim
    rename_i n' hn
    split at h <;> try exact h.elim
    rename_i c' hc
    rw [(ev_eval ha hn).1, (ev_eval ha hc).1]
    exact makeSlice_sound hr h
  case h_6 t p x hop =>
    rw [hop]; simp only
    split at h <;> try exact h.elim
    rename_i p' hp
    split at h <;> try exact h.elim
    rename_i x' hx
    rw [(ev_eval ha hp).1, (ev_eval ha hx).1]
    split at h <;> try exact h.elim
    · rename_i H' hs
      obtain ⟨w', s1, s2, s3, s4⟩ := storeV_sound hr (ev_eval ha hx).2 hs trivial
      exact ⟨_, H', E, w', h, s2, by simp [WF, WFs], s3, .inr ⟨rfl, by simp [s1]⟩⟩
    · rename_i c H' hs
      obtain ⟨w', s1, s2, s3, s4⟩ := storeV_sound hr (ev_eval ha hx).2 hs h.1
      exact ⟨_, H', E, w', h.2, s2, by simp [WF, WFs], s3, .inr ⟨rfl, by simp [s1]⟩⟩
  case h_7 t m i ok hop =>
    rw [hop]; simp only
    split at h <;> try exact h.elim
    rename_i m' hm
    split at h <;> try exact h.elim
    rename_i i' hi
    rw [(ev_eval ha hm).1, (ev_eval ha hi).1]
    exact lookup_sound hr h
  case h_8 t m i x hop =>
    rw [hop]; simp only
    split at h <;> try exact h.elim
    rename_i m' hm
    split at h <;> try exact h.elim
    rename_i i' hi
    split at h <;> try exact h.elim
    rename_i x' hx
    rw [(ev_eval ha hm).1, (ev_eval ha hi).1, (ev_eval ha hx).1]
    split at h <;> try exact h.elim
    rename_i H' hs
    obtain ⟨w', s1, s2, s3⟩ := mapUpdate_sound hr hs
    exact ⟨_, H', E, w', h, s2, by simp [WF, WFs], s3, .inr ⟨rfl, by simp [s1]⟩⟩
  case h_9 args ts hop =>
    rw [hop]; simp only
    split at h <;> try exact h.elim
    rename_i s x hx
    split at h <;> try exact h.elim
    rename_i t t' ht
    split at h <;> try exact h.elim
    rename_i hb
    split at h <;> try exact h.elim
    rename_i s' hs
    split at h <;> try exact h.elim
    rename_i x' hx'
    obtain ⟨e1, e2⟩ := ev_eval ha hs; obtain ⟨e3, e4⟩ := ev_eval ha hx'
    obtain rfl : args = #[s, x] := by apply Array.ext'; simpa using hx
    obtain rfl : ts = #[t, t'] := by apply Array.ext'; simpa using ht
    obtain rfl : t = t' := Nat.eq_of_beq_eq_true hb
    simp only [resolve, invoke, builtin, List.map_toArray, List.map_cons, List.map_nil, e1, e3]
    obtain ⟨v, H', E', w', g1, g2, g3, g4, g5⟩ := append_sound (ty := o.type) hr e2 e4 h
    refine ⟨v, H', E', w', g1, g2, g3, g4, ?_⟩
    simpa using g5
  case h_10 => exact h.elim

/-- A quiet operation, or one that acts. -/
def opK (P : Program) (op : Op) (a : LAct) (H : List Ob) (k : V → List Ob → Prop) : Prop :=
  match qV P op a H with
  | some (none, v) => k v H
  | some (some c, v) => c ∧ k v H
  | none => effK P op a H k

theorem op_sound {o : Oper} {a : LAct} {k : V → List Ob → Prop} (hr : Rep E H w) (ha : ActOk E H.length a) (h : opK P o.op a H k) : EffOk P E H w (execOp (a.conc E).eval o) k := by
  unfold opK at h
  split at h
  · rename_i v hq
    obtain ⟨q1, q2⟩ := q_sound hr ha hq trivial
    exact ⟨v, H, E, w, h, hr, q2, Ext.refl E H w, .inl q1⟩
  · rename_i c v hq
    obtain ⟨q1, q2⟩ := q_sound hr ha hq h.1
    exact ⟨v, H, E, w, h.2, hr, q2, Ext.refl E H w, .inl q1⟩
  · exact eff_sound hr ha h
end
end Go.Proofs.YtonohiifmepjfaaDoor.Ev
