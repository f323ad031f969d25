/-
  Own framework, part 17: code reckoned is code that the machine runs so.
-/
import Derived.Test.YtonohiifmepjfaaDoorEv16
import Derived.TacticsIn
namespace Go.Proofs.YtonohiifmepjfaaDoor.Ev
open Go Go.RowKit

def postP (Q : Post) (E : Env) (H : List Ob) (w : World) (e : Exit) (A : Act) (w' : World) : Prop :=
  ∃ a' H' E', Q e a' H' ∧ Rep E' H' w' ∧ ActOk E' H'.length a' ∧ A = a'.conc E' ∧ Ext E H w E' H' w'

theorem postP_trans {Q : Post} {E E' : Env} {H H' : List Ob} {w w' w'' : World} {e : Exit} {A : Act} (x : Ext E H w E' H' w') (h : postP Q E' H' w' e A w'') : postP Q E H w e A w'' := by
  obtain ⟨a, H2, E2, h1, h2, h3, h4, h5⟩ := h
  exact ⟨a, H2, E2, h1, h2, h3, h4, x.trans h5⟩

def rdOk (rd : Option Nat) (H : List Ob) : Prop := ∀ l, rd = some l → l < H.length
theorem rdOk.ext {rd : Option Nat} {E E' : Env} {H H' : List Ob} {w w' : World} (h : rdOk rd H) (x : Ext E H w E' H' w') : rdOk rd H' := fun l hl => Nat.lt_of_lt_of_le (h l hl) x.len
theorem fen_ext {rd : Option Nat} {E E' : Env} {H H' : List Ob} {w w' : World} (h : rdOk rd H) (x : Ext E H w E' H' w') : fen E' rd = fen E rd := by
  cases rd with
  | none => rfl
  | some l => simp only [fen, x.env l (h l rfl)]

/-! ### What is no more wanted is forgotten -/
mutual
theorem WF_lab {E : Env} {N M : Nat} : ∀ {v : V}, WF E M v → lab N v = true → WF E N v
  | .ptr l _ _, _, h => by simp only [lab, Nat.blt_eq] at h; simpa only [WF] using h
  | .map l, _, h => by simp only [lab, Nat.blt_eq] at h; simpa only [WF] using h
  | .yld l, _, h => by simp only [lab, Nat.blt_eq] at h; simpa only [WF] using h
  | .slc _ _ l _ _, hw, h => by simp only [lab, Nat.blt_eq] at h; simp only [WF] at hw ⊢; exact ⟨h, hw.2⟩
  | .func _ f c, hw, h => by
    simp only [lab] at h
    split at h
    · rename_i h1
      simp only [WF] at hw ⊢
      exact ⟨WFs_lab hw.1 h1, WFs_lab hw.2 h⟩
    · simp at h
  | .iface _ v, hw, h => by simp only [lab] at h; simp only [WF] at hw ⊢; exact WF_lab hw h
  | .agg cs, hw, h => by simp only [lab] at h; simp only [WF] at hw ⊢; exact WFs_lab hw h
  | .tup cs, hw, h => by simp only [lab] at h; simp only [WF] at hw ⊢; exact WFs_lab hw h
  | .bool _, _, _ | .int _ _, _, _ | .str _, _, _ | .nilp, _, _ | .nils, _, _ | .nilm, _, _ | .nilf, _, _ | .nili, _, _ | .raw _, _, _ => by simp only [WF]
theorem WFs_lab {E : Env} {N M : Nat} : ∀ {vs : List V}, WFs E M vs → labs N vs = true → WFs E N vs
  | [], _, _ => trivial
  | v :: vs, hw, h => by
    simp only [labs] at h
    split at h
    · rename_i h1; exact ⟨WF_lab hw.1 h1, WFs_lab hw.2 h⟩
    · simp at h
end
theorem labs_get {N : Nat} : ∀ {vs : List V} {j : Nat} {v : V}, labs N vs = true → vs[j]? = some v → lab N v = true
  | [], j, v, _, h => by simp at h
  | u :: vs, j, v, hl, h => by
    simp only [labs] at hl
    split at hl
    · rename_i h1
      cases j with
      | zero => simp at h; subst h; exact h1
      | succ j => exact labs_get hl (by simpa using h)
    · simp at hl
theorem labCols_get {N n : Nat} : ∀ {cs : List Col} {j : Nat} {c : Col}, labCols N n cs → cs[j]? = some c → ∀ i, i < n → lab N (c.at i) = true
  | [], j, c, _, h => by simp at h
  | d :: cs, j, c, hl, h => by
    have rest : labCols N n cs := by cases d <;> first | exact hl.2 | exact hl
    cases j with
    | succ j => exact labCols_get rest (by simpa using h)
    | zero =>
      simp at h; subst h
      intro i hi
      cases d with
      | val f => exact hl.1 i hi
      | int k f => rfl
      | bool f => rfl
      | str f => rfl
theorem labOb_spec {N : Nat} {o : Ob} {k : Prop} (h : labOb N o k) {E : Env} {M : Nat} {w : World} {L : Loc} (hr : RepOb E M w L o) : RepOb E N w L o ∧ k := by
  cases o with
  | mem own ty pre n cols =>
    simp only [labOb] at h
    split at h <;> try exact h.elim
    rename_i hp
    have hc : labCols N n cols ∧ k := by
      split at h
      · exact ⟨trivial, h⟩
      · exact h
    obtain ⟨h1, h2, h3, h4, h5⟩ := hr
    refine ⟨⟨h1, h2, fun j v hj => ?_, fun i hi j c hj => ?_, h5⟩, hc.2⟩
    · obtain ⟨a1, a2, a3⟩ := h3 j v hj
      exact ⟨a1, a2, WF_lab a3 (labs_get hp hj)⟩
    · obtain ⟨a1, a2, a3⟩ := h4 i hi j c hj
      exact ⟨a1, a2, WF_lab a3 (labCols_get hc.1 hj i hi)⟩
  | mp kinds f => exact ⟨hr, h⟩
  | dfr => exact ⟨hr, h⟩
  | dead => exact ⟨hr, h⟩
  | loop st pd ts ps as bd d =>
    simp only [labOb] at h
    split at h <;> try exact h.elim
    rename_i ht
    split at h <;> try exact h.elim
    rename_i hd
    obtain ⟨h0, h1, h2, h3⟩ := hr
    exact ⟨⟨h0, by simpa [Nat.blt_eq] using hd, WFs_lab h2 ht, h3⟩, h⟩
theorem labH_spec {N : Nat} : ∀ {H : List Ob} {k : Prop}, labH N H k → ∀ {E : Env} {M : Nat} {w : World} (Ls : Nat → Loc), (∀ j o, H[j]? = some o → RepOb E M w (Ls j) o) → (∀ j o, H[j]? = some o → RepOb E N w (Ls j) o) ∧ k
  | [], k, h, E, M, w, Ls, _ => ⟨fun j o hj => by simp at hj, h⟩
  | o :: H, k, h, E, M, w, Ls, hr => by
    obtain ⟨h1, h2⟩ := labOb_spec h (hr 0 o (by simp))
    obtain ⟨h3, h4⟩ := labH_spec h2 (fun j => Ls (j + 1)) (fun j o' hj => hr (j + 1) o' (by simpa using hj))
    refine ⟨fun j o' hj => ?_, h4⟩
    cases j with
    | zero => simp at hj; subst hj; exact h1
    | succ j => exact h3 j o' (by simpa using hj)
theorem takeF_iff {α : Type} : ∀ {n : Nat} {l : List α} {k : List α → Prop}, takeF n l k ↔ n ≤ l.length ∧ k (l.take n)
  | 0, l, k => by simp [takeF]
  | n + 1, [], k => by simp [takeF]
  | n + 1, x :: l, k => by simp only [takeF]; rw [takeF_iff]; simp
theorem Rep.take {E : Env} {H : List Ob} {w : World} (hr : Rep E H w) {N : Nat} (hN : N ≤ H.length) {k : Prop} (h : labH N (H.take N) k) : Rep E (H.take N) w ∧ k := by
  have hlen : (H.take N).length = N := by simp; omega
  have get : ∀ (j : Nat) (o : Ob), (H.take N)[j]? = some o → H[j]? = some o := fun j o hj => by
    rw [List.getElem?_take] at hj
    split at hj
    · exact hj
    · simp at hj
  obtain ⟨h1, h2⟩ := labH_spec h E (fun j o hj => hr.ob j o (get j o hj))
  exact ⟨⟨fun l o ho => by rw [hlen]; exact h1 l o ho, fun l l' o o' hne h3 h4 => hr.sep l l' o o' hne (get _ _ h3) (get _ _ h4)⟩, h2⟩
theorem Ext.take {E E' : Env} {H H' : List Ob} {w w' : World} (x : Ext E H w E' H' w') {N : Nat} (hN : N ≤ H'.length) (h : H.length ≤ N) : Ext E H w E' (H'.take N) w' :=
  ⟨by simp; omega, x.env, x.os, x.tape, x.output, x.size, x.frame, fun b hb => by
    obtain ⟨l, o, h1, h2, h3⟩ := hb
    refine x.owns b ⟨l, o, ?_, h2, h3⟩
    rw [List.getElem?_take] at h1
    split at h1
    · exact h1
    · simp at h1⟩

theorem scrub_sound {E : Env} {N M : Nat} {rw : Nat → Value} : ∀ {keep : List Bool} {vs : List V} {j : Nat} {k : List V → Prop}, scrub N rw j keep vs k → WFs E M vs → (∀ i v, vs[i]? = some v → rw (j + i) = emb E v) → ∃ us, k us ∧ embs E us = embs E vs ∧ WFs E N us
  | keep, [], j, k, h, _, _ => by
    refine ⟨[], ?_, rfl, trivial⟩
    cases keep with
    | nil => exact h
    | cons b keep => cases b <;> exact h
  | keep, v :: vs, j, k, h, hw, hv => by
    have tail : ∀ {keep : List Bool} {u : V}, (scrub N rw (j + 1) keep vs fun vs => k (u :: vs)) → emb E u = emb E v → WF E N u → ∃ us, k us ∧ embs E us = embs E (v :: vs) ∧ WFs E N us := by
      intro keep u hs he hu
      obtain ⟨us, h1, h2, h3⟩ := scrub_sound hs hw.2 (fun i v hi => by rw [show j + 1 + i = j + (i + 1) by omega]; exact hv (i + 1) v (by simpa using hi))
      exact ⟨u :: us, h1, by simp only [embs, he, h2], hu, h3⟩
    have h0 : rw j = emb E v := hv 0 v (by simp)
    cases keep with
    | nil => exact tail h (by simp only [emb, h0]) (by simp only [WF])
    | cons b keep =>
      cases b with
      | false => exact tail h (by simp only [emb, h0]) (by simp only [WF])
      | true =>
        simp only [scrub] at h
        split at h <;> try exact h.elim
        rename_i hl
        exact tail h rfl (WF_lab hw.1 hl)
theorem allLt_spec {N : Nat} : ∀ {ds : List Nat} {k : Prop}, allLt N ds k → k ∧ ∀ d ∈ ds, d < N
  | [], k, h => ⟨h, fun d hd => by cases hd⟩
  | d :: ds, k, h => by
    simp only [allLt] at h
    split at h <;> try exact h.elim
    rename_i hd
    obtain ⟨h1, h2⟩ := allLt_spec h
    refine ⟨h1, fun x hx => ?_⟩
    rcases List.mem_cons.1 hx with rfl | hx
    · simpa [Nat.blt_eq] using hd
    · exact h2 x hx
/-- Some of the objects are given up. -/
def Less (H' H : List Ob) : Prop := H'.length = H.length ∧ ∀ (j : Nat) (o : Ob), H'[j]? = some o → o = .dead ∨ H[j]? = some o
theorem Less.cons {H' H : List Ob} {o o' : Ob} (h : Less H' H) (ho : o' = .dead ∨ o' = o) : Less (o' :: H') (o :: H) := by
  refine ⟨by simp [h.1], fun j x hj => ?_⟩
  cases j with
  | zero => simp at hj; subst hj; exact ho.imp id fun e => by simp [e]
  | succ j => simpa using h.2 j x (by simpa using hj)
theorem killF_sound : ∀ {ko : List Bool} {H : List Ob} {k : List Ob → Prop}, killF ko H k → ∃ H', k H' ∧ Less H' H
  | [], H, k, h => ⟨H, h, rfl, fun _ _ h => .inr h⟩
  | true :: ks, [], k, h => ⟨[], h, rfl, fun _ _ h => .inr h⟩
  | false :: ks, [], k, h => ⟨[], h, rfl, fun _ _ h => .inr h⟩
  | true :: ks, o :: H, k, h => by
    obtain ⟨H', h1, h2⟩ := killF_sound (ko := ks) h
    exact ⟨_, h1, h2.cons (.inr rfl)⟩
  | false :: ks, o :: H, k, h => by
    obtain ⟨H', h1, h2⟩ := killF_sound (ko := ks) h
    exact ⟨_, h1, h2.cons (.inl rfl)⟩
theorem Rep.less {E : Env} {H H' : List Ob} {w : World} (hr : Rep E H w) (h : Less H' H) : Rep E H' w := by
  refine ⟨fun l o ho => ?_, fun l l' o o' hne h1 h2 h3 h4 => ?_⟩
  · rcases h.2 l o ho with rfl | h1
    · trivial
    · rw [h.1]; exact hr.ob l o h1
  · rcases h.2 l o h1 with rfl | h1
    · simp [Ob.own] at h3
    · rcases h.2 l' o' h2 with rfl | h2
      · simp [Ob.live] at h4
      · exact hr.sep l l' o o' hne h1 h2 h3 h4
theorem Ext.less {E E' : Env} {H H' H2 : List Ob} {w w' : World} (x : Ext E H w E' H' w') (h : Less H2 H') : Ext E H w E' H2 w' :=
  ⟨by rw [h.1]; exact x.len, x.env, x.os, x.tape, x.output, x.size, x.frame, fun b hb => by
    obtain ⟨l, o, h1, h2, h3⟩ := hb
    rcases h.2 l o h1 with rfl | h1
    · simp [Ob.own] at h2
    · exact x.owns b ⟨l, o, h1, h2, h3⟩⟩
theorem Rep.lab {E : Env} {H : List Ob} {w : World} (hr : Rep E H w) {N : Nat} {H' : List Ob} (hl : Less H' (H.take N)) (hN : N ≤ H.length) {k : Prop} (h : labH N H' k) : Rep E H' w ∧ k := by
  have hlen : H'.length = N := by rw [hl.1]; simp; omega
  have get : ∀ (j : Nat) (o : Ob), H'[j]? = some o → o = .dead ∨ H[j]? = some o := fun j o hj => by
    rcases hl.2 j o hj with h1 | h1
    · exact .inl h1
    · rw [List.getElem?_take] at h1
      split at h1
      · exact .inr h1
      · simp at h1
  obtain ⟨h1, h2⟩ := labH_spec h E (fun j o hj => by
    rcases get j o hj with rfl | h3
    · exact (trivial : RepOb E H.length w (E j) .dead)
    · exact hr.ob j o h3)
  refine ⟨⟨fun l o ho => by rw [hlen]; exact h1 l o ho, fun l l' o o' hne h3 h4 h5 h6 => ?_⟩, h2⟩
  rcases get l o h3 with rfl | h3
  · simp [Ob.own] at h5
  · rcases get l' o' h4 with rfl | h4
    · simp [Ob.live] at h6
    · exact hr.sep l l' o o' hne h3 h4 h5 h6

theorem gc_sound {E : Env} {H : List Ob} {w : World} {keep ko : List Bool} {N : Nat} {a : LAct} {k : LAct → List Ob → Prop} (h : gcK keep ko N a H k) (hr : Rep E H w) (ha : ActOk E H.length a) :
    N ≤ H.length ∧ ∃ a' H', Less H' (H.take N) ∧ k a' H' ∧ Rep E H' w ∧ ActOk E H'.length a' ∧ a'.conc E = a.conc E := by
  obtain ⟨ts, ds⟩ := a
  have h := h fun j => (embs E ts).getD j undef
  simp only at h
  rw [takeF_iff] at h
  obtain ⟨hN, h⟩ := h
  obtain ⟨H', h, hless⟩ := killF_sound h
  obtain ⟨r, h⟩ := hr.lab hless hN h
  obtain ⟨h, hd⟩ := allLt_spec h
  have hlen : H'.length = N := by rw [hless.1]; simp; omega
  obtain ⟨us, h1, h2, h3⟩ := scrub_sound (E := E) h ha.1 (fun i v hi => by simp [embs_eq, hi])
  exact ⟨hN, ⟨us, ds⟩, H', hless, h1, r, by rw [hlen]; exact ⟨h3, hd⟩, by simp only [LAct.conc, h2]⟩

/-! ### Labels renamed -/
theorem rens_eq (r : Nat → Nat) : ∀ vs : List V, rens r vs = vs.map (ren r)
  | [] => rfl
  | v :: vs => by simp [rens, rens_eq r vs]
theorem ren_one {r : Nat → Nat} (v : V) : (ren r v).one = v.one := by cases v <;> simp [ren, V.one]
theorem inS_get : ∀ {src : List (Option Nat)} {q : Nat}, inS src q = true → src[rmap src q]? = some (some q)
  | [], q, h => by simp [inS] at h
  | some p :: ss, q, h => by
    simp only [inS] at h
    simp only [rmap]
    split at h
    · rename_i he; simp [Nat.eq_of_beq_eq_true he]
    · simpa using inS_get h
  | none :: ss, q, h => by
    simp only [inS] at h
    simp only [rmap]
    simpa using inS_get h
theorem inS_of : ∀ {src : List (Option Nat)} {p q : Nat}, src[p]? = some (some q) → inS src q = true
  | [], p, q, h => by simp at h
  | s :: ss, p, q, h => by
    cases p with
    | zero => simp at h; subst h; simp [inS]
    | succ p =>
      have := inS_of (src := ss) (by simpa using h)
      cases s with
      | none => simpa [inS] using this
      | some x => simp only [inS]; split
                  · rfl
                  · exact this
theorem srcA_low {N : Nat} : ∀ {ss : List (Option Nat)} {p0 p q : Nat}, srcA N p0 ss = true → ss[p]? = some (some q) → p0 + p < N → q = p0 + p
  | [], p0, p, q, _, h, _ => by simp at h
  | s :: ss, p0, p, q, ha, h, hl => by
    have rest : srcA N (p0 + 1) ss = true := by
      cases s with
      | none => exact ha
      | some x =>
        simp only [srcA] at ha
        split at ha <;> try (simp at ha; done)
        split at ha
        · split at ha
          · exact ha
          · simp at ha
        · exact ha
    cases p with
    | succ p =>
      have := srcA_low rest (show ss[p]? = some (some q) by simpa using h) (by omega)
      omega
    | zero =>
      simp at h; subst h
      simp only [srcA] at ha
      split at ha <;> try (simp at ha; done)
      split at ha
      · split at ha
        · rename_i hb; exact (Nat.eq_of_beq_eq_true hb).symm
        · simp at ha
      · rename_i hb
        have : Nat.blt p0 N = true := by simpa [Nat.blt_eq] using hl
        rw [this] at hb; cases hb
theorem srcA_inj {N : Nat} : ∀ {ss : List (Option Nat)} {p0 p p' q : Nat}, srcA N p0 ss = true → ss[p]? = some (some q) → ss[p']? = some (some q) → p = p'
  | [], p0, p, p', q, _, h, _ => by simp at h
  | s :: ss, p0, p, p', q, ha, h, h' => by
    have rest : srcA N (p0 + 1) ss = true ∧ (∀ x, s = some x → inS ss x = false) := by
      cases s with
      | none => exact ⟨ha, fun x h => by cases h⟩
      | some x =>
        simp only [srcA] at ha
        split at ha <;> try (simp at ha; done)
        rename_i hin
        refine ⟨?_, fun y hy => by injection hy with hy; subst hy; exact hin⟩
        split at ha
        · split at ha
          · exact ha
          · simp at ha
        · exact ha
    cases p with
    | zero =>
      cases p' with
      | zero => rfl
      | succ p' =>
        simp at h; subst h
        have := inS_of (src := ss) (p := p') (by simpa using h')
        rw [rest.2 q rfl] at this; cases this
    | succ p =>
      cases p' with
      | zero =>
        simp at h'; subst h'
        have := inS_of (src := ss) (p := p) (by simpa using h)
        rw [rest.2 q rfl] at this; cases this
      | succ p' => rw [srcA_inj rest.1 (p := p) (p' := p') (by simpa using h) (by simpa using h')]

def envS (src : List (Option Nat)) (E : Env) : Env := fun p => match src[p]? with
  | some (some q) => E q
  | _ => E p
theorem envS_at {src : List (Option Nat)} {E : Env} {q : Nat} (h : inS src q = true) : envS src E (rmap src q) = E q ∧ rmap src q < src.length := by
  have := inS_get h
  exact ⟨by simp only [envS, this], (List.getElem?_eq_some_iff.1 this).1⟩

section
variable {src : List (Option Nat)} {E : Env}
mutual
theorem emb_mv : ∀ {v : V}, labS src v = true → emb (envS src E) (ren (rmap src) v) = emb E v
  | .ptr l _ _, h => by simp only [labS] at h; simp only [ren, emb, (envS_at h).1]
  | .map l, h => by simp only [labS] at h; simp only [ren, emb, (envS_at h).1]
  | .yld l, h => by simp only [labS] at h; simp only [ren, emb, (envS_at h).1]
  | .slc _ _ l _ _, h => by simp only [ren, emb]
  | .func _ f c, h => by
    simp only [labS] at h
    split at h
    · rename_i h1; simp only [ren, emb, embs_mv h1, embs_mv h]
    · simp at h
  | .iface _ v, h => by simp only [labS] at h; simp only [ren, emb, emb_mv h]
  | .agg cs, h => by simp only [labS] at h; simp only [ren, emb, embs_mv h]
  | .tup cs, h => by simp only [labS] at h; simp only [ren, emb, embs_mv h]
  | .bool _, _ | .int _ _, _ | .str _, _ | .nilp, _ | .nils, _ | .nilm, _ | .nilf, _ | .nili, _ | .raw _, _ => by simp only [ren, emb]
theorem embs_mv : ∀ {vs : List V}, labSs src vs = true → embs (envS src E) (rens (rmap src) vs) = embs E vs
  | [], _ => by simp only [rens, embs]
  | v :: vs, h => by
    simp only [labSs] at h
    split at h
    · rename_i h1; simp only [rens, embs, emb_mv h1, embs_mv h]
    · simp at h
end
mutual
theorem WF_mv {M : Nat} : ∀ {v : V}, WF E M v → labS src v = true → WF (envS src E) src.length (ren (rmap src) v)
  | .ptr l _ _, _, h => by simp only [labS] at h; simp only [ren, WF]; exact (envS_at (E := E) h).2
  | .map l, _, h => by simp only [labS] at h; simp only [ren, WF]; exact (envS_at (E := E) h).2
  | .yld l, _, h => by simp only [labS] at h; simp only [ren, WF]; exact (envS_at (E := E) h).2
  | .slc _ _ l _ _, hw, h => by simp only [labS] at h; simp only [ren, WF] at hw ⊢; rw [(envS_at h).1]; exact ⟨(envS_at (E := E) h).2, hw.2⟩
  | .func _ f c, hw, h => by
    simp only [labS] at h
    split at h
    · rename_i h1; simp only [ren, WF] at hw ⊢; exact ⟨WFs_mv hw.1 h1, WFs_mv hw.2 h⟩
    · simp at h
  | .iface _ v, hw, h => by simp only [labS] at h; simp only [ren, WF] at hw ⊢; exact WF_mv hw h
  | .agg cs, hw, h => by simp only [labS] at h; simp only [ren, WF] at hw ⊢; exact WFs_mv hw h
  | .tup cs, hw, h => by simp only [labS] at h; simp only [ren, WF] at hw ⊢; exact WFs_mv hw h
  | .bool _, _, _ | .int _ _, _, _ | .str _, _, _ | .nilp, _, _ | .nils, _, _ | .nilm, _, _ | .nilf, _, _ | .nili, _, _ | .raw _, _, _ => by simp only [ren, WF]
theorem WFs_mv {M : Nat} : ∀ {vs : List V}, WFs E M vs → labSs src vs = true → WFs (envS src E) src.length (rens (rmap src) vs)
  | [], _, _ => trivial
  | v :: vs, hw, h => by
    simp only [labSs] at h
    split at h
    · rename_i h1; simp only [rens, WFs] at hw ⊢; exact ⟨WF_mv hw.1 h1, WFs_mv hw.2 h⟩
    · simp at h
end
theorem labSs_get : ∀ {vs : List V} {j : Nat} {v : V}, labSs src vs = true → vs[j]? = some v → labS src v = true
  | [], j, v, _, h => by simp at h
  | u :: vs, j, v, hl, h => by
    simp only [labSs] at hl
    split at hl
    · rename_i h1
      cases j with
      | zero => simp at h; subst h; exact h1
      | succ j => exact labSs_get hl (by simpa using h)
    · simp at hl
theorem noLab_get {n : Nat} : ∀ {cs : List Col} {j : Nat} {c : Col}, noLab n cs → cs[j]? = some c → ∀ i, i < n → lab 0 (c.at i) = true
  | [], j, c, _, h => by simp at h
  | d :: cs, j, c, hl, h => by
    have rest : noLab n cs := by cases d <;> first | exact hl.2 | exact hl
    cases j with
    | succ j => exact noLab_get rest (by simpa using h)
    | zero =>
      simp at h; subst h
      intro i hi
      cases d with
      | val f => exact hl.1 i hi
      | int k f => rfl
      | bool f => rfl
      | str f => rfl
theorem RepOb_mv {M : Nat} {w : World} {L : Loc} {o : Ob} (h : RepOb E M w L o) (hl : labSOb src o) : RepOb (envS src E) src.length w L (mvOb (rmap src) o) := by
  cases o with
  | mem own ty pre n cols =>
    obtain ⟨h1, h2, h3, h4, h5, h6⟩ := h
    obtain ⟨l1, l2⟩ := hl
    refine ⟨h1, h2, fun j v hj => ?_, fun i hi j c hj => ?_, fun ho => ?_, fun hf => ?_, h6.2⟩
    · rw [rens_eq, List.getElem?_map] at hj
      cases hp : pre[j]? with
      | none => rw [hp] at hj; simp at hj
      | some u =>
        rw [hp] at hj; simp at hj; subst hj
        obtain ⟨a1, a2, a3⟩ := h3 j u hp
        have hu := labSs_get l1 hp
        exact ⟨by rw [a1, emb_mv hu], by rw [ren_one]; exact a2, WF_mv a3 hu⟩
    · obtain ⟨a1, a2, a3⟩ := h4 i hi j c hj
      have h0 : WF E 0 (c.at i) := WF_lab a3 (noLab_get l2 hj i hi)
      have hlen : (rens (rmap src) pre).length = pre.length := by simp [rens_eq]
      rw [hlen]
      exact ⟨by rw [a1, emb_ext (E := E) (E' := envS src E) (fun l hl => by omega) _ h0], a2, WF.ext (fun l hl => by omega) (Nat.zero_le _) _ h0⟩
    · have hlen : (rens (rmap src) pre).length = pre.length := by simp [rens_eq]
      rw [hlen]; exact h5 ho
    · obtain ⟨rfl, g⟩ := h6.1 hf; exact ⟨rfl, g⟩
  | mp kinds f => exact h
  | dfr => exact h
  | dead => trivial
  | loop st pd ts ps as bd d =>
    obtain ⟨h0, h1, h2, fn, h3⟩ := h
    obtain ⟨l1, l2⟩ := hl
    exact ⟨h0, (envS_at (E := E) l2).2, WFs_mv h2 l1, fn, by rw [h3, embs_mv l1, (envS_at l2).1]⟩
theorem mvOb_own {r : Nat → Nat} (o : Ob) : (mvOb r o).own = o.own := by cases o <;> rfl
theorem mvOb_live {r : Nat → Nat} (o : Ob) : (mvOb r o).live = o.live := by cases o <;> rfl
theorem mvH_length {all : List (Option Nat)} {H : List Ob} : ∀ {ss : List (Option Nat)}, (mvH all H ss).length = ss.length
  | [] => rfl
  | none :: ss => by simp [mvH, mvH_length (ss := ss)]
  | some q :: ss => by simp [mvH, mvH_length (ss := ss)]
theorem mvH_get {all : List (Option Nat)} {H : List Ob} : ∀ {ss : List (Option Nat)} {p : Nat} {o2 : Ob}, (mvH all H ss)[p]? = some o2 →
    o2 = .dead ∨ ∃ q o, ss[p]? = some (some q) ∧ H[q]? = some o ∧ o2 = mvOb (rmap all) o
  | [], p, o2, h => by simp [mvH] at h
  | none :: ss, p, o2, h => by
    cases p with
    | zero => simp [mvH] at h; exact .inl h.symm
    | succ p => rcases mvH_get (ss := ss) (p := p) (by simpa [mvH] using h) with h | ⟨q, o, h1, h2, h3⟩
                · exact .inl h
                · exact .inr ⟨q, o, by simpa using h1, h2, h3⟩
  | some q :: ss, p, o2, h => by
    cases p with
    | zero =>
      simp only [mvH, List.getElem?_cons_zero, Option.some.injEq] at h
      split at h
      · rename_i o ho; exact .inr ⟨q, o, by simp, ho, h.symm⟩
      · exact .inl h.symm
    | succ p => rcases mvH_get (ss := ss) (p := p) (by simpa [mvH] using h) with h | ⟨q, o, h1, h2, h3⟩
                · exact .inl h
                · exact .inr ⟨q, o, by simpa using h1, h2, h3⟩
theorem obsS_get {all : List (Option Nat)} {H : List Ob} : ∀ {ss : List (Option Nat)} {p q : Nat} {o : Ob}, obsS all H ss → ss[p]? = some (some q) → H[q]? = some o → labSOb all o
  | [], p, q, o, _, h, _ => by simp at h
  | none :: ss, p, q, o, ho, h, hq => by
    cases p with
    | zero => simp at h
    | succ p => exact obsS_get (ss := ss) ho (by simpa using h) hq
  | some x :: ss, p, q, o, ho, h, hq => by
    cases p with
    | zero => simp at h; subst h; have := ho.1; rw [hq] at this; exact this
    | succ p => exact obsS_get (ss := ss) ho.2 (by simpa using h) hq
theorem mv_sound {E0 : Env} {H0 H : List Ob} {w0 w : World} (hA : srcA H0.length 0 src = true) (hN : H0.length ≤ src.length) (hobs : obsS src H src) (hr : Rep E H w) (x : Ext E0 H0 w0 E H w) :
    Rep (envS src E) (mvH src H src) w ∧ Ext E0 H0 w0 (envS src E) (mvH src H src) w := by
  refine ⟨⟨fun p o2 h => ?_, fun p p' o2 o2' hne h h' ho hlv hx hy => ?_⟩, ?_⟩
  · rcases mvH_get h with rfl | ⟨q, o, h1, h2, rfl⟩
    · trivial
    · have he : envS src E p = E q := by simp only [envS, h1]
      rw [mvH_length, he]
      exact RepOb_mv (hr.ob q o h2) (obsS_get hobs h1 h2)
  · rcases mvH_get h with rfl | ⟨q, o, h1, h2, rfl⟩
    · simp [Ob.own] at ho
    rcases mvH_get h' with rfl | ⟨q', o', h1', h2', rfl⟩
    · simp [Ob.live] at hlv
    have he : envS src E p = E q := by simp only [envS, h1]
    have he' : envS src E p' = E q' := by simp only [envS, h1']
    rw [he] at hx ⊢
    rw [he'] at hy ⊢
    refine hr.sep q q' o o' (fun e => hne ?_) h2 h2' (by rw [← mvOb_own]; exact ho) (by rw [← mvOb_live]; exact hlv) hx hy
    subst e
    exact srcA_inj hA h1 h1'
  · refine ⟨by rw [mvH_length]; exact hN, fun l hl => ?_, x.os, x.tape, x.output, x.size, x.frame, fun b hb => ?_⟩
    · unfold envS
      split
      · rename_i q hq
        have := srcA_low hA hq (by omega)
        rw [Nat.zero_add] at this; rw [this]; exact x.env l hl
      · exact x.env l hl
    · obtain ⟨p, o2, h1, h2, h3⟩ := hb
      rcases mvH_get h1 with rfl | ⟨q, o, g1, g2, rfl⟩
      · simp [Ob.own] at h2
      · have he : envS src E p = E q := by simp only [envS, g1]
        exact x.owns b ⟨q, o, g2, by rw [← mvOb_own]; exact h2, by rw [← he]; exact h3⟩
theorem scrS_sound {rw : Nat → Value} {M : Nat} : ∀ {keep : List Bool} {vs : List V} {j : Nat}, tmpsS src keep vs = true → WFs E M vs → (∀ i v, vs[i]? = some v → rw (j + i) = emb E v) →
    embs (envS src E) (scrS src rw j keep vs) = embs E vs ∧ WFs (envS src E) src.length (scrS src rw j keep vs)
  | keep, [], j, _, _, _ => by cases keep with
    | nil => exact ⟨rfl, trivial⟩
    | cons b keep => cases b <;> exact ⟨rfl, trivial⟩
  | keep, v :: vs, j, h, hw, hv => by
    have h0 : rw j = emb E v := hv 0 v (by simp)
    have hv' : ∀ i u, vs[i]? = some u → rw (j + 1 + i) = emb E u := fun i u hi => by
      rw [show j + 1 + i = j + (i + 1) by omega]; exact hv (i + 1) u (by simpa using hi)
    cases keep with
    | nil =>
      obtain ⟨g1, g2⟩ := scrS_sound (keep := []) (vs := vs) (j := j + 1) h hw.2 hv'
      exact ⟨by simp only [scrS, embs, emb, g1, h0], by simp only [scrS, WFs, WF]; exact ⟨trivial, g2⟩⟩
    | cons b keep =>
      cases b with
      | false =>
        obtain ⟨g1, g2⟩ := scrS_sound (keep := keep) (vs := vs) (j := j + 1) h hw.2 hv'
        exact ⟨by simp only [scrS, embs, emb, g1, h0], by simp only [scrS, WFs, WF]; exact ⟨trivial, g2⟩⟩
      | true =>
        simp only [tmpsS] at h
        split at h <;> try (simp at h; done)
        rename_i hl
        obtain ⟨g1, g2⟩ := scrS_sound (keep := keep) (vs := vs) (j := j + 1) h hw.2 hv'
        exact ⟨by simp only [scrS, embs, emb_mv hl, g1], by simp only [scrS, WFs]; exact ⟨WF_mv hw.1 hl, g2⟩⟩
end
theorem gcM_sound {E0 E : Env} {H0 H : List Ob} {w0 w : World} {a : LAct} {k : LAct → List Ob → Prop} (h : gcM H0.length a H k) (hr : Rep E H w) (ha : ActOk E H.length a) (x : Ext E0 H0 w0 E H w) :
    ∃ E' a' H', k a' H' ∧ Rep E' H' w ∧ ActOk E' H'.length a' ∧ a'.conc E' = a.conc E ∧ Ext E0 H0 w0 E' H' w := by
  obtain ⟨ts, ds⟩ := a
  obtain ⟨keep, src, h1, h2, h3, h4, h5, h6⟩ := h fun j => (embs E ts).getD j undef
  obtain ⟨g1, g2⟩ := mv_sound h1 h2 h3 hr x
  obtain ⟨s1, s2⟩ := scrS_sound (E := E) (rw := fun j => (embs E ts).getD j undef) (j := 0) h4 ha.1 (fun i v hi => by simp [embs_eq, hi])
  refine ⟨envS src E, _, _, h6, g1, ?_, ?_, g2⟩
  · rw [mvH_length]
    refine ⟨s2, fun d hd => ?_⟩
    obtain ⟨d0, hd0, rfl⟩ := List.mem_map.1 hd
    exact (envS_at (E := E) (h5 d0 hd0)).2
  · simp only [LAct.conc, s1, Act.mk.injEq, true_and, List.map_map]
    refine List.map_congr_left fun d hd => ?_
    simp only [Function.comp, (envS_at (E := E) (h5 d hd)).1]

/-! ### nil told as a row -/
theorem nilS_get {N : Nat} : ∀ {ns : List (Option Nat)} {vs : List V} {j : Nat} {v' : V}, okN N ns = true → (nilS ns vs)[j]? = some v' → ∃ v, vs[j]? = some v ∧ (v' = v ∨ (v = .nils ∧ ∃ l, l < N ∧ v' = .slc none 0 l 0 0))
  | [], vs, j, v', _, h => ⟨v', h, .inl rfl⟩
  | _ :: _, [], j, v', _, h => by simp [nilS] at h
  | o :: ns, v :: vs, j, v', hk, h => by
    have hk' : okN N ns = true := by
      cases o with
      | none => exact hk
      | some l => simp only [okN] at hk; split at hk
                  · exact hk
                  · simp at hk
    cases j with
    | succ j =>
      obtain ⟨u, h1, h2⟩ := nilS_get hk' (show (nilS ns vs)[j]? = some v' by simpa [nilS] using h)
      exact ⟨u, by simpa using h1, h2⟩
    | zero =>
      refine ⟨v, by simp, ?_⟩
      simp only [nilS, List.getElem?_cons_zero, Option.some.injEq] at h
      cases o with
      | none => exact .inl h.symm
      | some l =>
        simp only [okN] at hk
        split at hk <;> try (simp at hk; done)
        rename_i hl
        cases v <;> first | exact .inl h.symm | exact .inr ⟨rfl, l, by simpa [Nat.blt_eq] using hl, h.symm⟩
theorem nilS_length : ∀ {ns : List (Option Nat)} {vs : List V}, (nilS ns vs).length = vs.length
  | [], vs => rfl
  | _ :: _, [] => rfl
  | o :: ns, v :: vs => by simp [nilS, nilS_length (ns := ns) (vs := vs)]
theorem conv_val {E : Env} {N : Nat} {v v' : V} (h : v' = v ∨ (v = .nils ∧ ∃ l, l < N ∧ v' = .slc none 0 l 0 0)) : emb E v' = emb E v ∧ (v.one = true → v'.one = true) ∧ (WF E N v → WF E N v') := by
  rcases h with rfl | ⟨rfl, l, hl, rfl⟩
  · exact ⟨rfl, id, id⟩
  · exact ⟨by simp [emb], fun _ => rfl, fun _ => by simp [WF, hl]⟩
theorem nilS_emb {E : Env} {N : Nat} {ns : List (Option Nat)} {vs : List V} (hk : okN N ns = true) : embs E (nilS ns vs) = embs E vs ∧ (WFs E N vs → WFs E N (nilS ns vs)) := by
  refine ⟨?_, fun hw => WFs_iff.2 fun v' hv => ?_⟩
  · rw [embs_eq, embs_eq]
    apply List.ext_getElem?
    intro j
    rw [List.getElem?_map, List.getElem?_map]
    cases h : (nilS ns vs)[j]? with
    | none =>
      have : vs[j]? = none := by
        rw [List.getElem?_eq_none_iff] at h ⊢
        rw [nilS_length] at h; exact h
      rw [this]
    | some v' =>
      obtain ⟨v, h1, h2⟩ := nilS_get hk h
      rw [h1]
      simp [(conv_val (E := E) h2).1]
  · obtain ⟨j, hj⟩ := List.getElem?_of_mem hv
    obtain ⟨v, h1, h2⟩ := nilS_get hk hj
    exact (conv_val h2).2.2 (WFs_iff.1 hw v (List.mem_of_getElem? h1))
theorem nilOb_rep {E : Env} {N : Nat} {w : World} {L : Loc} {ns : List (Option Nat)} {o : Ob} (hk : okN N ns = true) (h : RepOb E N w L o) : RepOb E N w L (nilOb ns o) := by
  cases o with
  | mem own ty pre n cols =>
    obtain ⟨h1, h2, h3, h4, h5, h6, h7⟩ := h
    refine ⟨h1, h2, fun j v' hj => ?_, fun i hi j c hj => ?_, fun ho => ?_, fun hf => ?_, h7⟩
    · obtain ⟨v, g1, g2⟩ := nilS_get hk hj
      obtain ⟨a1, a2, a3⟩ := h3 j v g1
      obtain ⟨c1, c2, c3⟩ := conv_val (E := E) g2
      exact ⟨by rw [a1, c1], c2 a2, c3 a3⟩
    · rw [nilS_length]; exact h4 i hi j c hj
    · rw [nilS_length]; exact h5 ho
    · obtain ⟨rfl, g⟩ := h6 hf
      refine ⟨?_, g⟩
      cases ns <;> rfl
  | mp _ _ => exact h
  | loop _ _ _ _ _ _ _ => exact h
  | dfr => exact h
  | dead => trivial
theorem nilOb_own {ns : List (Option Nat)} (o : Ob) : (nilOb ns o).own = o.own := by cases o <;> rfl
theorem nilOb_live {ns : List (Option Nat)} (o : Ob) : (nilOb ns o).live = o.live := by cases o <;> rfl
theorem nilH_sound {E : Env} {w : World} {N : Nat} : ∀ {os : List (Nat × List (Option Nat))} {H : List Ob}, okNs N os = true → H.length = N → Rep E H w → Rep E (nilH os H) w ∧ Ext E H w E (nilH os H) w
  | [], H, _, _, hr => ⟨hr, Ext.refl E H w⟩
  | (l, ns) :: os, H, hk, hN, hr => by
    simp only [okNs] at hk
    split at hk <;> try (simp at hk; done)
    rename_i hk1
    simp only [nilH]
    cases ho : H[l]? with
    | none => exact nilH_sound hk hN hr
    | some o =>
      dsimp only
      have old : ∀ (l3 : Nat) (o3 : Ob), (H.set l (nilOb ns o))[l3]? = some o3 → ∃ o4, H[l3]? = some o4 ∧ (o3 = o4 ∨ o3 = nilOb ns o4) := by
        intro l3 o3 h3
        rw [List.getElem?_set] at h3
        split at h3
        · rename_i heq; subst heq
          split at h3
          · injection h3 with h3; exact ⟨o, ho, .inr h3.symm⟩
          · simp at h3
        · exact ⟨o3, h3, .inl rfl⟩
      have same : ∀ (o3 o4 : Ob), (o3 = o4 ∨ o3 = nilOb ns o4) → o3.own = o4.own ∧ o3.live = o4.live := by
        rintro o3 o4 (rfl | rfl)
        · exact ⟨rfl, rfl⟩
        · exact ⟨nilOb_own _, nilOb_live _⟩
      have r1 : Rep E (H.set l (nilOb ns o)) w := by
        refine ⟨fun l3 o3 h3 => ?_, fun l1 l2 o1 o2 hne h1 h2 h3 h4 hx hy => ?_⟩
        · rw [List.length_set]
          obtain ⟨o4, g1, g2⟩ := old l3 o3 h3
          rcases g2 with rfl | rfl
          · exact hr.ob _ _ g1
          · exact nilOb_rep (by rw [hN]; exact hk1) (hr.ob _ _ g1)
        · obtain ⟨p1, g1, g2⟩ := old l1 o1 h1
          obtain ⟨p2, g3, g4⟩ := old l2 o2 h2
          exact hr.sep l1 l2 p1 p2 hne g1 g3 (by rw [← (same _ _ g2).1]; exact h3) (by rw [← (same _ _ g4).2]; exact h4) hx hy
      have x1 : Ext E H w E (H.set l (nilOb ns o)) w := ⟨by simp, fun _ _ => rfl, rfl, rfl, rfl, Nat.le_refl _, fun _ _ _ => rfl, fun b hb => by
        obtain ⟨l3, o3, h3, h4, h5⟩ := hb
        obtain ⟨p1, g1, g2⟩ := old l3 o3 h3
        exact .inl ⟨l3, p1, g1, by rw [← (same _ _ g2).1]; exact h4, h5⟩⟩
      obtain ⟨r2, x2⟩ := nilH_sound hk (by rw [List.length_set]; exact hN) r1
      exact ⟨r2, x1.trans x2⟩
theorem ghosts_length : ∀ {gs : List (TypeId × List Col)}, (ghosts gs).length = gs.length
  | [] => rfl
  | (t, cs) :: gs => by simp [ghosts, ghosts_length (gs := gs)]
theorem ghosts_sound {w : World} : ∀ {gs : List (TypeId × List Col)} {E : Env} {H : List Ob}, Rep E H w → ∃ E', Rep E' (H ++ ghosts gs) w ∧ Ext E H w E' (H ++ ghosts gs) w
  | [], E, H, hr => ⟨E, by simpa [ghosts] using hr, by simpa [ghosts] using Ext.refl E H w⟩
  | (t, cs) :: gs, E, H, hr => by
    obtain ⟨g1, g2⟩ := add_ghost hr t cs
    obtain ⟨E', g3, g4⟩ := ghosts_sound (gs := gs) g1
    rw [List.append_assoc] at g3 g4
    exact ⟨E', g3, g2.trans g4⟩
theorem row_sound {E : Env} {H : List Ob} {w : World} {a : LAct} {k : LAct → List Ob → Prop} (h : convK a H k) (hr : Rep E H w) (ha : ActOk E H.length a) :
    ∃ E' a' H', k a' H' ∧ Rep E' H' w ∧ ActOk E' H'.length a' ∧ a'.conc E' = a.conc E ∧ Ext E H w E' H' w := by
  obtain ⟨gs, ts, os, h1, h2, hk⟩ := h
  obtain ⟨E', r1, x1⟩ := ghosts_sound (gs := gs) hr
  have hlen : (H ++ ghosts gs).length = H.length + gs.length := by simp [ghosts_length]
  obtain ⟨r2, x2⟩ := nilH_sound h2 hlen r1
  have x3 := x1.trans x2
  have hl2 : (nilH os (H ++ ghosts gs)).length = H.length + gs.length := by
    have nl : ∀ (os : List (Nat × List (Option Nat))) (G : List Ob), (nilH os G).length = G.length := by
      intro os
      induction os with
      | nil => intro G; rfl
      | cons p os ih =>
        obtain ⟨l, ns⟩ := p
        intro G
        simp only [nilH]
        rw [ih]
        split <;> simp
    rw [nl, hlen]
  have ha1 : ActOk E' (H.length + gs.length) a := by rw [← hl2]; exact ha.ext x3.env x3.len
  obtain ⟨n1, n2⟩ := nilS_emb (E := E') (vs := a.tmps) h1
  refine ⟨E', _, _, hk, r2, ⟨by rw [hl2]; exact n2 ha1.1, by rw [hl2]; exact ha1.2⟩, ?_, x3⟩
  have := conc_ext x3.env ha
  rw [← this]
  simp only [LAct.conc, n1]

def EcOk (P : Program) (ec : Ev) : Prop :=
  ∀ (rd : Option Nat) (code : Code) (Q : Post) (a : LAct) (H : List Ob) (E : Env) (w : World) (m : Nat), ec rd code Q a H → Rep E H w → ActOk E H.length a → rdOk rd H → code.wpIn (fen E rd) m P (postP Q E H w) (a.conc E) w

section
variable {P : Program} {E : Env} {H : List Ob} {w : World}

theorem get_lt {H : List Ob} {l : Nat} {o : Ob} (h : H[l]? = some o) : l < H.length := (List.getElem?_eq_some_iff.1 h).1

/-! ### A function's end -/
theorem leaves_sound {m : Nat} {fn : Func} {tmps : Array Value} {R : Ending → World → Prop} : ∀ {ds : List Nat} {H H' : List Ob} {w : World}, killDfs H ds = some H' → Rep E H w →
    (∀ w', Rep E H' w' → Ext E H w E H' w' → ∃ v, (results fn tmps).run P w' = .ok v w' ∧ R (.returned v) w') →
    LeavesInM Fence.wide m P fn tmps R (ds.map fun d => { target := .collected (E d).block, args := #[] }) .returning w
  | [], H, H', w, h, hr, hk => by
    simp [killDfs] at h; subst h
    exact hk w hr (Ext.refl E H w)
  | d :: ds, H, H', w, h, hr, hk => by
    simp only [killDfs] at h
    split at h <;> try (simp at h; done)
    rename_i hd
    obtain ⟨w1, t1, t2, t3⟩ := take_sound (P := P) hr hd
    refine ⟨by simp, .inl ⟨(E d).block, w1, rfl, t1, ?_⟩⟩
    exact leaves_sound h t2 fun w' r x => hk w' r (t3.trans x)

theorem inline_ok {ec : Ev} (hec : EcOk P ec) {f : FuncId} {x : List V} {k : Cont} (h : inlineK P ec f x H k) (hr : Rep E H w) (hx : WFs E H.length x) : Calls P f (embs E x).toArray w (retP k E H w) := by
  unfold inlineK at h
  split at h <;> try exact h.elim
  rename_i fn hfn
  split at h <;> try exact h.elim
  rename_i c hb
  rw [frcL_iff] at h
  have hf : P.funcs[f]? = some fn := by simpa using hfn
  refine callsIn_wide.1 (callsIn_of_wp_marks (F := Fence.wide) (n := 0) hf hb trivial ?_)
  have hw : WFs E H.length (x ++ List.replicate (fn.ntmps - x.length) (.tup [])) := WFs_iff.2 fun v hv => by
    rcases List.mem_append.1 hv with h1 | h1
    · exact (WFs_iff.1 hx) v h1
    · obtain ⟨_, rfl⟩ := List.mem_replicate.1 h1; simp [WF, WFs]
  have hwp := hec none c (retK P fn k) ⟨x ++ List.replicate (fn.ntmps - x.length) (.tup []), []⟩ H E w 0 h hr ⟨hw, fun d hd => by cases hd⟩ (fun l hl => by simp at hl)
  have hact : LAct.conc E ⟨x ++ List.replicate (fn.ntmps - x.length) (.tup []), []⟩ = { tmps := (embs E x).toArray ++ Array.replicate (fn.ntmps - (embs E x).toArray.size) undef, defers := [] } := by
    simp only [LAct.conc, List.map_nil]
    congr 1
    apply Array.ext'
    simp [embs_eq, emb, undef]
  rw [hact] at hwp
  refine Code.wpIn_mono (fun e A w' hp => ?_) hwp
  obtain ⟨a', H', E', q, r', ha', rfl, x'⟩ := hp
  have fin : ∀ e, retK P fn k e a' H' → (e = .ret ∨ e = .normal) → LeavesInM Fence.wide 0 P fn (a'.conc E').tmps (retP k E H w) (a'.conc E').defers .returning w' := by
    intro e q he
    have q' : match killDfs H' a'.dfs with
      | some H' => frcL H' fun H' => match resV P H' a' fn.results.toList with
        | some (none, vs) => frcV (oneRes vs) fun v => k v H'
        | some (some c, vs) => frcV (oneRes vs) fun v => c ∧ k v H'
        | none => False
      | none => False := by rcases he with rfl | rfl <;> exact q
    split at q' <;> try exact q'.elim
    rename_i H2 hk
    rw [frcL_iff] at q'
    refine leaves_sound hk r' fun w2 r2 x2 => ?_
    have ha2 : ActOk E' H2.length a' := ha'.ext (fun _ _ => rfl) x2.len
    split at q' <;> try exact q'.elim
    · rename_i vs hvs
      rw [frcV_iff] at q'
      obtain ⟨s1, s2⟩ := res_sound (w := w2) r2 ha2 hvs trivial
      exact ⟨_, s1, _, H2, E', rfl, q', r2, s2, x'.trans x2⟩
    · rename_i c vs hvs
      rw [frcV_iff] at q'
      obtain ⟨s1, s2⟩ := res_sound (w := w2) r2 ha2 hvs q'.1
      exact ⟨_, s1, _, H2, E', rfl, q'.2, r2, s2, x'.trans x2⟩
  cases e with
  | normal => exact fin _ q (.inr rfl)
  | ret => exact fin _ q (.inl rfl)
  | exit id => exact q.elim
  | goto l => exact q.elim
  | panic c => exact q.elim
  | outgrown => exact q.elim

theorem endK_ok {l : Nat} {jump : Option Code} {k : Cont} (h : endK l jump k H) (hr : Rep E H w) {E0 : Env} {H0 : List Ob} {w0 : World} (x : Ext E0 H0 w0 E H w) :
    ∃ v w', (Instr.endRound (E l).block jump).run P w = .ok v w' ∧ retP k E0 H0 w0 (.returned v) w' := by
  unfold endK at h
  split at h <;> try exact h.elim
  rename_i st pd ts ps as bd d hl
  obtain ⟨w', e1, e2, e3⟩ := end_sound (P := P) hr hl jump
  refine ⟨_, w', e1, ?_⟩
  cases jump with
  | none =>
    have h : setF H l (.loop .ready none ts ps as bd d) fun H => k (.bool true) H := h
    rw [setF_iff] at h; exact ⟨.bool true, _, E, rfl, h, e2, by simp [WF], x.trans e3⟩
  | some c =>
    have h : setF H l (.loop .done (some c) ts ps as bd d) fun H => k (.bool false) H := h
    rw [setF_iff] at h; exact ⟨.bool false, _, E, rfl, h, e2, by simp [WF], x.trans e3⟩

theorem callK_ok {ec : Ev} (hec : EcOk P ec) : CallOk P (callK P ec) := by
  intro fv vs H k E w h hr hfv hvs
  unfold callK at h
  split at h <;> try exact h.elim
  · rename_i f first cap
    split at h <;> try exact h.elim
    rename_i fn hfn
    split at h <;> try exact h.elim
    rename_i c hb
    rw [appF_iff, appF_iff] at h
    have hf : P.funcs[f]? = some fn := by simpa using hfn
    have hx : WFs E H.length (first ++ vs ++ cap) := WFs_iff.2 fun v hv => by
      rcases List.mem_append.1 hv with h1 | h1
      · rcases List.mem_append.1 h1 with h2 | h2
        · exact (WFs_iff.1 hfv.1) v h2
        · exact (WFs_iff.1 hvs) v h2
      · exact (WFs_iff.1 hfv.2) v h1
    refine .inl ⟨f, first, cap, fn, c, rfl, hf, hb, ?_⟩
    rcases h with ⟨C, hs, hc⟩ | h
    · have : (fun v H' => frcH H' fun H' => frcD v fun v => k v H') = k := by
        funext v H'
        rw [frcH_iff, frcD_iff]
      rw [this] at hc
      exact hs _ H k E w hc hr hx
    · exact inline_ok hec h hr hx
  · rename_i l
    unfold roundK at h
    split at h <;> try exact h.elim
    rename_i pd ts ps as bd d hl
    split at h <;> try exact h.elim
    rename_i hlen
    rw [frcL_iff] at h
    refine .inr ⟨l, pd, ts, ps, as, bd, d, rfl, hl, Nat.eq_of_beq_eq_true hlen, fun rd m f => roundIn_of_wpIn (fen_fn E rd f) ?_⟩
    obtain ⟨_, _, hts, _⟩ := hr.ob l _ hl
    have hrd : rdOk (some l) H := fun l' hl' => by injection hl' with hl'; subst hl'; exact get_lt hl
    have hwp := hec (some l) as _ _ H E w m h hr ⟨WFs_setTmps hts hvs, fun d hd => by cases hd⟩ hrd
    rw [fen_inRound]
    refine Code.wpIn_mono (fun e A w1 hp => ?_) hwp
    obtain ⟨a1, H1, E1, q, r1, ha1, rfl, x1⟩ := hp
    cases e with
    | normal =>
      simp only at q
      split at q <;> try exact q.elim
      rename_i pd1 ts1 ps1 as1 bd1 d1 hl1
      rw [setF_iff] at q
      obtain ⟨w2, b1, b2, b3⟩ := begin_sound (P := P) r1 hl1
      have el : E1 l = E l := x1.env l (get_lt hl)
      refine ⟨w2, by rw [← el]; exact b1, ?_⟩
      have hwp2 := hec (some l) bd _ a1 _ E1 w2 m q b2 (ha1.ext (fun _ _ => rfl) b3.len) ((hrd.ext x1).ext b3)
      rw [fen_ext hrd x1] at hwp2
      refine Code.wpIn_mono (fun e A w3 hp => ?_) hwp2
      obtain ⟨a3, H3, E3, q3, r3, ha3, rfl, x3⟩ := hp
      have xx := (x1.trans b3).trans x3
      have el3 : E3 l = E l := xx.env l (get_lt hl)
      cases e with
      | normal => exact el3 ▸ endK_ok q3 r3 xx
      | ret => exact el3 ▸ endK_ok q3 r3 xx
      | exit id => exact el3 ▸ endK_ok q3 r3 xx
      | goto t => exact el3 ▸ endK_ok q3 r3 xx
      | panic c => exact q3.elim
      | outgrown => exact q3.elim
    | ret => exact q.elim
    | exit id => exact q.elim
    | goto t => exact q.elim
    | panic c => exact q.elim
    | outgrown => exact q.elim
end

/-! ### Loops -/
def LoopAt (F : Fence) (m : Nat) (P : Program) (c : Code) (Q : Exit → Act → World → Prop) (a : Act) (w : World) : Prop :=
  ∀ (b : Frame) (k : List Item) (cs : List Frame), b.roundOf = F.round → F.fn b.fn → F.room (cs.length + 1 + m) →
    ∃ e a' w', Q e a' w' ∧ ArrivesIn (Machine.fenced P F) P (lone (b.atR a (.code c :: .inLoop c :: k)) cs w) b k cs e a' w'

theorem LoopAt.wp {F : Fence} {m : Nat} {P : Program} {c : Code} {Q : Exit → Act → World → Prop} {a : Act} {w : World} (h : LoopAt F m P c Q a w) : (Code.loop c).wpIn F m P Q a w := by
  intro b k cs hro hb hr
  obtain ⟨e, a', w', hq, harr⟩ := h b k cs hro hb hr
  exact ⟨e, a', w', hq, .of_steps (.one (fenced_calm hb hr rfl) stepR_loop) harr⟩

theorem LoopAt.turn {F : Fence} {m : Nat} {P : Program} {c : Code} {Q : Exit → Act → World → Prop} {a : Act} {w : World} (h : c.wpIn F m P (Exit.then (LoopAt F m P c Q) Q) a w) : LoopAt F m P c Q a w := by
  intro b k cs hro hb hr
  obtain ⟨e, a₁, w₁, hq, harr⟩ := h b (.inLoop c :: k) cs hro hb hr
  cases e with
  | normal =>
    obtain ⟨e₂, a₂, w₂, hq₂, harr₂⟩ := hq b k cs hro hb hr
    exact ⟨e₂, a₂, w₂, hq₂, .of_steps (StepsIn.trans harr (.one (fenced_calm hb hr rfl) stepR_inLoop)) harr₂⟩
  | exit id => exact ⟨_, a₁, w₁, hq, .pass (x := .inLoop c) rfl (fun _ _ => .inl (by simp)) harr⟩
  | goto l => exact ⟨_, a₁, w₁, hq, .pass (x := .inLoop c) rfl (fun _ _ => .inl (by simp)) harr⟩
  | ret => exact ⟨_, a₁, w₁, hq, .pass (x := .inLoop c) rfl (fun _ _ => .inl (by simp)) harr⟩
  | panic ch => exact ⟨_, a₁, w₁, hq, .pass (x := .inLoop c) rfl (fun _ _ => .inl (by simp)) harr⟩
  | outgrown => exact ⟨_, a₁, w₁, hq, .pass (x := .inLoop c) rfl (fun _ _ => .inl (by simp)) harr⟩

theorem LoopAt.mono {F : Fence} {m : Nat} {P : Program} {c : Code} {Q Q' : Exit → Act → World → Prop} {a : Act} {w : World} (h : LoopAt F m P c Q a w) (hq : ∀ e a w, Q e a w → Q' e a w) : LoopAt F m P c Q' a w :=
  fun b k cs h1 h2 h3 => let ⟨e, a', w', q, r⟩ := h b k cs h1 h2 h3; ⟨e, a', w', hq _ _ _ q, r⟩

/-- A region that draws, in a round as in none. -/
theorem any_round {P : Program} {ops : Array Oper} {Q : Exit → Act → World → Prop} {m l : Nat} (hd : ∀ (j : Nat) (o : Oper), ops[j]? = some o → ∀ c, o.op ≠ .defer c) :
    ∀ {fuel : Nat} {L : Array Bool} {a : Act} {w : World}, wpAnyIn Fence.wide m P .any ops Q fuel L a w → wpAnyIn (Fence.wide.inRound l) m P .any ops Q fuel L a w
  | 0, _, _, _, h => h
  | fuel + 1, L, a, w, h => ⟨h.1, fun i hi => by
    have h1 := wpOpIn_mono (fun a w h => any_round hd (l := l) h) (h.2 i hi)
    unfold wpOpIn at h1 ⊢
    split
    · simpa [*] using h1
    · rename_i o ho
      simp only [ho] at h1
      split
      · rename_i hw
        simp only [hw, if_true] at h1
        refine ⟨h1.1, ?_⟩
        have h2 := h1.2
        rw [Oper.semAt_eq _ _ _ (hd i o ho)] at h2 ⊢
        exact h2
      · rename_i hw
        simp only [hw] at h1
        exact h1⟩

section
variable {P : Program} (hNG : ∀ (f : Nat) (fn : Func), P.funcs[f]? = some fn → (fn.name == "runtime.NumGoroutine") = false) (hmix : P.follows .mixedOrders = true)
include hNG

theorem ops_sound {cl : V → List V → List Ob → Cont → Prop} (hcl : CallOk P cl) {ops : Array Oper} {k : LAct → List Ob → Prop} {rd : Option Nat} {m : Nat} {Q : Exit → Act → World → Prop} :
    ∀ {l : List Oper} {a : LAct} {H : List Ob} {E : Env} {w : World} {E0 : Env}, evOps cl P ops.toList l a H k → Rep E H w → ActOk E H.length a → fen E rd = fen E0 rd → rdOk rd H →
      (∀ a' H' E' w', k a' H' → Rep E' H' w' → ActOk E' H'.length a' → Ext E H w E' H' w' → Q .normal (a'.conc E') w') → wpListIn (fen E0 rd) m P ops Q l (a.conc E) w
  | [], a, H, E, w, E0, h, hr, ha, _, _, hk => hk a H E w h hr ha (Ext.refl E H w)
  | o :: l, a, H, E, w, E0, h, hr, ha, hE, hrd, hk => by
    simp only [evOps] at h
    obtain ⟨want, a', h, e1, ha', hw⟩ := wanted_sound ha h
    simp only [wpListIn]
    cases want with
    | true =>
      rw [if_pos hw]
      simp only at h
      rw [← e1, ← hE]
      refine step_sound hNG hcl h hr ha' rd m fun v H' E' w' h hr' hv hx' => ?_
      rw [frcV_iff, putK_iff] at h
      have := ops_sound hcl (Q := Q) (E0 := E0) (rd := rd) (m := m) h hr' (put_ok (ha'.ext hx'.env hx'.len) hv) ((fen_ext hrd hx').trans hE) (hrd.ext hx') fun a2 H2 E2 w2 k1 k2 k3 k4 => hk a2 H2 E2 w2 k1 k2 k3 (hx'.trans k4)
      rw [put_conc, conc_ext hx'.env ha'] at this
      rw [hE]
      exact this
    | false =>
      rw [if_neg (by rw [hw]; simp)]
      simp only at h
      rw [putK_iff] at h
      have := ops_sound hcl (Q := Q) (E0 := E0) (rd := rd) (m := m) h hr (put_ok ha' (by simp [WF, WFs])) hE hrd hk
      rw [put_conc, e1] at this
      exact ⟨fun f _ => by rw [← hE]; exact fen_fn E rd f, this⟩

omit hNG in
theorem endLoop_ok {ec : Ev} (hec : EcOk P ec) {rd : Option Nat} {l : Nat} {Q : Post} {a : LAct} {H : List Ob} {E : Env} {w : World} {m : Nat} (h : endLoopK ec rd l Q a H) (hr : Rep E H w) (ha : ActOk E H.length a) (hrd : rdOk rd H)
    {E0 : Env} {H0 : List Ob} {w0 : World} (x : Ext E0 H0 w0 E H w) :
    ∃ jump w₄, (Instr.endLoop (E l).block).run P w = .ok jump w₄ ∧ (match jump with
       | none => postP Q E0 H0 w0 .normal (a.conc E) w₄
       | some c => c.wpIn (fen E rd) m P (postP Q E0 H0 w0) (a.conc E) w₄) := by
  unfold endLoopK at h
  split at h <;> try exact h.elim
  rename_i st pd ts ps as bd d hnb hl
  have hst : st ≠ .busy := fun e => by subst e; exact hnb rfl
  obtain ⟨w', e1, e2, e3⟩ := endLoop_sound (P := P) hr hl hst
  refine ⟨pd, w', e1, ?_⟩
  have ha' : ActOk E (H.set l (.loop .exhausted pd ts ps as bd d)).length a := ha.ext (fun _ _ => rfl) e3.len
  split at h
  · rw [setF_iff] at h
    exact ⟨a, _, E, h, e2, ha', rfl, x.trans e3⟩
  · rw [setF_iff] at h
    have := hec rd _ Q a _ E w' m h e2 ha' (hrd.ext e3)
    exact Code.wpIn_mono (fun e A w2 hp => postP_trans (x.trans e3) hp) this

include hmix
theorem evC_ok : ∀ n, EcOk P (evC P n) ∧
    ∀ (rd : Option Nat) (body : Code) (Q : Post) (a : LAct) (H : List Ob) (E : Env) (w : World) (m : Nat), evC P n rd (.loop body) Q a H → Rep E H w → ActOk E H.length a → rdOk rd H → LoopAt (fen E rd) m P body (postP Q E H w) (a.conc E) w := by
  intro n
  induction n with
  | zero => exact ⟨fun rd code Q a H E w m h => h.elim, fun rd body Q a H E w m h => h.elim⟩
  | succ n ih =>
    obtain ⟨ihc, ihl⟩ := ih
    have then_ok : ∀ (rd : Option Nat) (y : Code) (Q : Post) (H : List Ob) (E : Env) (w : World) (m : Nat), rdOk rd H → ∀ e A w', postP (thenL (evC P n rd y Q) Q) E H w e A w' → Exit.then (y.wpIn (fen E rd) m P (postP Q E H w)) (postP Q E H w) e A w' := by
      intro rd y Q H E w m hrd e A w' hp
      obtain ⟨a', H', E', q, r', ha', rfl, x'⟩ := hp
      cases e with
      | normal =>
        have := ihc rd y Q a' H' E' w' m q r' ha' (hrd.ext x')
        rw [fen_ext hrd x'] at this
        exact Code.wpIn_mono (fun e A w2 hp => postP_trans x' hp) this
      | exit id => exact ⟨a', H', E', q, r', ha', rfl, x'⟩
      | goto l => exact ⟨a', H', E', q, r', ha', rfl, x'⟩
      | ret => exact ⟨a', H', E', q, r', ha', rfl, x'⟩
      | panic c => exact ⟨a', H', E', q, r', ha', rfl, x'⟩
      | outgrown => exact ⟨a', H', E', q, r', ha', rfl, x'⟩
    have loops : ∀ (rd : Option Nat) (body : Code) (Q : Post) (a : LAct) (H : List Ob) (E : Env) (w : World) (m : Nat), evC P (n + 1) rd (.loop body) Q a H → Rep E H w → ActOk E H.length a → rdOk rd H → LoopAt (fen E rd) m P body (postP Q E H w) (a.conc E) w := by
      intro rd body Q a H E w m h hr ha hrd
      rcases h with h | ⟨I, m0, h0, hstep⟩ | h
      · obtain ⟨E', a', H', g1, g2, g3, g4, g5⟩ := row_sound h hr ha
        have := ihl rd body Q a' H' E' w m g1 g2 g3 (hrd.ext g5)
        rw [g4, fen_ext hrd g5] at this
        exact this.mono fun e A w3 hp => postP_trans g5 hp
      · have key : ∀ j a' H' E' w', I j a' H' → Rep E' H' w' → ActOk E' H'.length a' → Ext E H w E' H' w' → LoopAt (fen E rd) m P body (postP Q E H w) (a'.conc E') w' := by
          intro j
          induction j using Nat.strongRecOn with
          | _ j ihj =>
            intro a' H' E' w' hI r' ha' x'
            refine LoopAt.turn ?_
            have := ihc rd body _ a' H' E' w' m (hstep j a' H' hI) r' ha' (hrd.ext x')
            rw [fen_ext hrd x'] at this
            refine Code.wpIn_mono (fun e A w2 hp => ?_) this
            obtain ⟨a2, H2, E2, q, r2, ha2, rfl, x2⟩ := hp
            have x3 := x'.trans x2
            cases e with
            | normal =>
              have q : gcM H.length a2 H2 fun a' H' => ∃ m', m' < j ∧ I m' a' H' := q
              obtain ⟨E4, a4, H4, ⟨m', hm', hI'⟩, g2, g3, g4, g5⟩ := gcM_sound q r2 ha2 x3
              have := ihj m' hm' a4 H4 E4 w2 hI' g2 g3 g5
              rw [g4] at this
              exact this
            | exit id => exact ⟨a2, H2, E2, q, r2, ha2, rfl, x3⟩
            | goto l => exact ⟨a2, H2, E2, q, r2, ha2, rfl, x3⟩
            | ret => exact ⟨a2, H2, E2, q, r2, ha2, rfl, x3⟩
            | panic c => exact ⟨a2, H2, E2, q, r2, ha2, rfl, x3⟩
            | outgrown => exact ⟨a2, H2, E2, q, r2, ha2, rfl, x3⟩
        obtain ⟨E4, a4, H4, g1, g2, g3, g4, g5⟩ := gcM_sound h0 hr ha (Ext.refl E H w)
        have := key m0 a4 H4 E4 w g1 g2 g3 g5
        rw [g4] at this
        exact this
      · refine LoopAt.turn ?_
        have := ihc rd body _ a H E w m h hr ha hrd
        refine Code.wpIn_mono (fun e A w2 hp => ?_) this
        obtain ⟨a2, H2, E2, q, r2, ha2, rfl, x2⟩ := hp
        cases e with
        | normal =>
          have := ihl rd body Q a2 H2 E2 w2 m q r2 ha2 (hrd.ext x2)
          rw [fen_ext hrd x2] at this
          exact this.mono fun e A w3 hp => postP_trans x2 hp
        | exit id => exact ⟨a2, H2, E2, q, r2, ha2, rfl, x2⟩
        | goto l => exact ⟨a2, H2, E2, q, r2, ha2, rfl, x2⟩
        | ret => exact ⟨a2, H2, E2, q, r2, ha2, rfl, x2⟩
        | panic c => exact ⟨a2, H2, E2, q, r2, ha2, rfl, x2⟩
        | outgrown => exact ⟨a2, H2, E2, q, r2, ha2, rfl, x2⟩
    refine ⟨?_, loops⟩
    intro rd code Q a H E w m h hr ha hrd
    rcases h with h | h
    · obtain ⟨E', a', H', g1, g2, g3, g4, g5⟩ := row_sound h hr ha
      have := ihc rd code Q a' H' E' w m g1 g2 g3 (hrd.ext g5)
      rw [g4, fen_ext hrd g5] at this
      exact Code.wpIn_mono (fun e A w3 hp => postP_trans g5 hp) this
    have hcl : CallOk P (callK P (evC P n)) := callK_ok ihc
    cases code with
    | skip => exact wpIn_skip ⟨a, H, E, h, hr, ha, rfl, Ext.refl E H w⟩
    | label l => exact wpIn_label ⟨a, H, E, h, hr, ha, rfl, Ext.refl E H w⟩
    | exit id => exact wpIn_exit ⟨a, H, E, h, hr, ha, rfl, Ext.refl E H w⟩
    | ret => exact wpIn_ret ⟨a, H, E, h, hr, ha, rfl, Ext.refl E H w⟩
    | goto l => exact h.elim
    | refuse s => exact h.elim
    | scope c => exact h.elim
    | loop body => exact (loops rd body Q a H E w m (.go h) hr ha hrd).wp
    | seq x y => exact wpIn_seq (Code.wpIn_mono (then_ok rd y Q H E w m hrd) (ihc rd x _ a H E w m h hr ha hrd))
    | cond c x y =>
      dsimp only at h
      split at h <;> try exact h.elim
      rename_i b hb
      have h := splitB_elim h
      refine wpIn_cond_split (ev_eval ha hb).1 (fun hb => ?_) (fun hb => ?_)
      · subst hb; exact ihc rd x Q a H E w m h hr ha hrd
      · subst hb; exact ihc rd y Q a H E w m h hr ha hrd
    | block id body =>
      refine wpIn_block (Code.wpIn_mono (fun e A w' hp => ?_) (ihc rd body _ a H E w m h hr ha hrd))
      obtain ⟨a', H', E', q, r', ha', rfl, x'⟩ := hp
      cases e with
      | exit id' =>
        simp only [inBlockL] at q
        simp only [Exit.inBlock]
        split at q
        · rename_i hid
          rw [if_pos (Nat.eq_of_beq_eq_true hid)]
          exact ⟨a', H', E', q, r', ha', rfl, x'⟩
        · rename_i hid
          rw [if_neg (fun e => by subst e; simp at hid)]
          exact ⟨a', H', E', q, r', ha', rfl, x'⟩
      | normal => exact ⟨a', H', E', q, r', ha', rfl, x'⟩
      | goto l => exact ⟨a', H', E', q, r', ha', rfl, x'⟩
      | ret => exact ⟨a', H', E', q, r', ha', rfl, x'⟩
      | panic c => exact ⟨a', H', E', q, r', ha', rfl, x'⟩
      | outgrown => exact ⟨a', H', E', q, r', ha', rfl, x'⟩
    | region id ops draw =>
      cases draw with
      | false =>
        exact wpIn_region_list (ops_sound hNG hcl h hr ha rfl hrd fun a' H' E' w' k1 k2 k3 k4 => ⟨a', H', E', k1, k2, k3, rfl, k4⟩)
      | true =>
        dsimp only at h
        split at h <;> try exact h.elim
        rename_i hfree
        have hg := draw_gm hNG hcl hfree (m := m) (k := fun a H => Q .normal a H) (G := fun A W => postP Q E H w .normal A W) ops.toList.length [] [] a H E w.drew (Array.replicate ops.size false) [] h hr.drew ha
          ⟨by simp, fun j oj hj hl => by
            have hlt : j < ops.size := (Array.getElem?_eq_some_iff.1 hj).1
            simp [hlt] at hl⟩
          ⟨by simp, fun j => by
            rcases Nat.lt_or_ge j ops.size with h' | h' <;> simp [memN, h']⟩
          (fun rc hrc => by cases hrc) (fun rc hrc => by cases hrc)
          (fun a' H' E' w' k1 k2 k3 k4 => ⟨a', H', E', k1, k2, k3, rfl, ⟨k4.len, k4.env, k4.os, k4.tape, k4.output, k4.size, k4.frame, k4.owns⟩⟩) ops.size (by simp)
        have hany := gm_any hg
        have hd : ∀ (j : Nat) (o : Oper), ops[j]? = some o → ∀ c, o.op ≠ .defer c := fun j o ho c hop => by
          have := (freeAll_spec hfree j o (by simpa using ho)).1
          rw [hop] at this; simp [tame] at this
        have hwp : (Code.region id ops true).wpIn (fen E rd) m P (fun e A W => e = .normal ∧ postP Q E H w .normal A W) (a.conc E) w := by
          cases rd with
          | none => exact wpIn_region_any hmix hany
          | some l => exact wpIn_region_any hmix (any_round hd hany)
        exact Code.wpIn_mono (fun e A W hp => by rw [hp.1]; exact hp.2) hwp
    | rangeFunc f ps as bd =>
      dsimp only at h
      split at h <;> try exact h.elim
      rename_i g first cap hf
      obtain ⟨ev1, ev2⟩ := ev_eval ha hf
      refine wpIn_rangeFunc fun fn _ => ?_
      have hdep : (fen E rd).depth.isSome = true → 1 ≤ m := by rw [fen_depth]; simp
      have called : ∀ (H1 : List Ob) (E1 : Env) (w1 : World) (l : Nat) (mark : List Deferred) (a2 : LAct), callK P (evC P n) (.func (.func g) first cap) [.yld l] H1 (fun _ H' => endLoopK (evC P n) rd l Q a2 H') →
          Rep E1 H1 w1 → Ext E H w E1 H1 w1 → l < H1.length → ActOk E1 H1.length a2 → (a2.conc E1 = { a.conc E with defers := mark ++ (a.conc E).defers }) →
          ∃ (d : Deferred) (w₁' : World) (f' : FuncId) (args : Array Value) (w₂ : World), (resolve (a.conc E).eval (rangeCall f (E1 l).block) 0).run P w1 = .ok d w₁' ∧
            (∀ f', Target.leads P w₁' d.target d.args = some f' → (fen E rd).fn f') ∧ (invoke d.target d.args).run P w₁' = .ok (.enter f' args) w₂ ∧ (((fen E rd).depth.isSome = true → 1 ≤ m)) ∧
            CallsIn (fen E rd) (m - 1) P f' args w₂ (rangePost (fen E rd) m P (E1 l).block (postP Q E H w) { a.conc E with defers := mark ++ (a.conc E).defers }) := by
        intro H1 E1 w1 l mark a2 hc r1 x1 hl1 ha2 hmark
        have hfv : WF E1 H1.length (.func (.func g) first cap) := WF.ext x1.env x1.len _ ev2
        have hemb : emb E1 (.func (.func g) first cap) = emb E (.func (.func g) first cap) := emb_ext x1.env _ ev2
        rcases hcl _ _ H1 _ E1 w1 hc r1 hfv (by simp [WFs, WF, hl1]) with ⟨f', first', cap', fn', c', e1, e2, e3, e4⟩ | ⟨l', _, _, _, _, _, _, e1, _⟩
        · simp only [V.func.injEq, Fn.func.injEq] at e1
          obtain ⟨rfl, rfl, rfl⟩ := e1
          have hev : (a.conc E).eval f = .func (.func g) (embs E1 first).toArray (embs E1 cap).toArray := by rw [ev1, ← hemb]; simp [emb]
          refine ⟨{ target := .fn (.func g) (embs E1 cap).toArray, args := (embs E1 first).toArray ++ #[.func (.yield (E1 l).block) #[] #[]] }, w1, g, (embs E1 (first ++ [.yld l] ++ cap)).toArray, w1, ?_, fun _ _ => fen_fn E rd _, ?_, hdep, ?_⟩
          · simp only [resolve, hev, Deferred.ofValue, Sem.run_pure]
            simp [Act.eval]
          · simp only [invoke, run_callFunc_body e2 e3 (hNG _ _ e2)]
            simp [embs_append, embs, emb]
          · refine (callsIn_fen e4).mono ?_
            rintro e w' ⟨v, H', E', rfl, g1, g2, g3, g4⟩
            have ha3 : ActOk E' H'.length a2 := ha2.ext g4.env g4.len
            have xx := x1.trans g4
            obtain ⟨jump, w₄, j1, j2⟩ := endLoop_ok ihc (m := m) g1 g2 ha3 (hrd.ext xx) xx
            have el : E' l = E1 l := g4.env l hl1
            have ec : a2.conc E' = { a.conc E with defers := mark ++ (a.conc E).defers } := by rw [conc_ext g4.env ha2, hmark]
            rw [el] at j1
            rw [ec, fen_ext hrd xx] at j2
            exact ⟨jump, w₄, j1, j2⟩
        · simp at e1
      cases rd with
      | none =>
        simp only at h
        rw [lenF_iff, Nat.zero_add, appF_iff] at h
        obtain ⟨E1, w1, s1, s2, s3⟩ := enter_outer (P := P) hr fn ps as bd ha.1
        have hlen : (H ++ [Ob.dfr, .loop .ready none a.tmps ps as bd H.length]).length = H.length + 2 := by simp
        have ha2 : ActOk E1 (H ++ [Ob.dfr, .loop .ready none a.tmps ps as bd H.length]).length (a.pushDf H.length) := by
          have := ha.ext s3.env s3.len
          refine ⟨this.1, fun d hd => ?_⟩
          rcases List.mem_cons.1 hd with rfl | hd
          · omega
          · exact this.2 d hd
        obtain ⟨d, w₁', f', args, w₂, c1, c2, c3, c4, c5⟩ := called _ E1 w1 (H.length + 1) [{ target := .collected (E1 H.length).block, args := #[] }] (a.pushDf H.length) h s2 s3 (by omega) ha2 (by
          have := conc_ext s3.env ha
          simp only [LAct.pushDf, LAct.conc] at this ⊢
          injection this with t1 t2
          simp only [List.map_cons, t1, t2, List.singleton_append])
        exact ⟨_, _, w1, d, w₁', f', args, w₂, s1, c1, c2, c3, c4, c5⟩
      | some l0 =>
        simp only at h
        split at h <;> try exact h.elim
        rename_i st pd ts0 ps0 as0 bd0 d0 hl0
        rw [lenF_iff, Nat.zero_add, appF_iff] at h
        obtain ⟨E1, w1, s1, s2, s3⟩ := enter_inner (P := P) hr fn ps as bd ha.1 hl0
        obtain ⟨d, w₁', f', args, w₂, c1, c2, c3, c4, c5⟩ := called _ E1 w1 H.length [] a h s2 s3 (by simp) (ha.ext s3.env s3.len) (by
          rw [conc_ext s3.env ha]; rfl)
        exact ⟨_, _, w1, d, w₁', f', args, w₂, s1, c1, c2, c3, c4, c5⟩
end

/-- What a call leaves, the rest forgotten. -/
def gcR (N : Nat) (k : Cont) : Cont := fun v H => match lab N v with
  | true => takeF N H fun H => labH N H (k v H)
  | false => False
theorem retP_gc {N : Nat} {k : Cont} {E : Env} {H : List Ob} {w : World} (hN : H.length ≤ N) {e : Ending} {w' : World} (h : retP (gcR N k) E H w e w') : retP k E H w e w' := by
  obtain ⟨v, H', E', h1, h2, h3, h4, h5⟩ := h
  unfold gcR at h2
  split at h2 <;> try exact h2.elim
  rename_i hl
  rw [takeF_iff] at h2
  obtain ⟨g1, g2⟩ := h3.take h2.1 h2.2
  exact ⟨v, _, E', h1, g2, g1, by rw [show (H'.take N).length = N by simp; omega]; exact WF_lab h4 hl, h5.take h2.1 hN⟩

/-- What a call leaves, its labels renamed. -/
def gcS (N : Nat) (k : Cont) : Cont := fun v H => ∃ src : List (Option Nat), srcA N 0 src = true ∧ N ≤ src.length ∧ obsS src H src ∧ labS src v = true ∧ k (ren (rmap src) v) (mvH src H src)
theorem retP_gcS {k : Cont} {E : Env} {H : List Ob} {w : World} {e : Ending} {w' : World} (h : retP (gcS H.length k) E H w e w') : retP k E H w e w' := by
  obtain ⟨v, H', E', h1, ⟨src, g1, g2, g3, g4, g5⟩, h3, h4, h5⟩ := h
  obtain ⟨m1, m2⟩ := mv_sound g1 g2 g3 h3 h5
  exact ⟨_, _, envS src E', by rw [emb_mv g4]; exact h1, g5, m1, by rw [mvH_length]; exact WF_mv h4 g4, m2⟩

/-- THE LAW OF THIS FRAMEWORK: what is reckoned of a call is what the call does. -/
theorem evF_sound {P : Program} (hNG : ∀ (f : Nat) (fn : Func), P.funcs[f]? = some fn → (fn.name == "runtime.NumGoroutine") = false) (hmix : P.follows .mixedOrders = true)
    {n : Nat} {f : FuncId} {x : List V} {H : List Ob} {k : Cont} {E : Env} {w : World} (h : evF P n f x H k) (hr : Rep E H w) (hx : WFs E H.length x) : Calls P f (embs E x).toArray w (retP k E H w) :=
  inline_ok (evC_ok hNG hmix n).1 h hr hx

/-- A function's contract, of its text reckoned: what it leaves beyond the first N labels is forgotten. -/
theorem sound_of {P : Program} (hNG : ∀ (f : Nat) (fn : Func), P.funcs[f]? = some fn → (fn.name == "runtime.NumGoroutine") = false) (hmix : P.follows .mixedOrders = true)
    {n : Nat} {f : FuncId} {C : List V → List Ob → Cont → Prop} (h : ∀ args H k, C args H k → ∃ N, H.length ≤ N ∧ evF P n f args H (gcR N k)) : Sound P f C := by
  intro args H k E w hc hr hw
  obtain ⟨N, hN, he⟩ := h args H k hc
  exact Calls.mono (evF_sound hNG hmix he hr hw) fun e w' he => retP_gc hN he
end Go.Proofs.YtonohiifmepjfaaDoor.Ev
