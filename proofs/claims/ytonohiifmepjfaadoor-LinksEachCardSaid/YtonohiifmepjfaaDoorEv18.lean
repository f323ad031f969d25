/-
  Own framework, part 18: what is proved of a call on a small memory holds on a large one in which its objects lie somewhere.
-/
import Derived.Test.YtonohiifmepjfaaDoorEv17
namespace Go.Proofs.YtonohiifmepjfaaDoor.Ev
open Go Go.RowKit

mutual
theorem emb_ren {E : Env} {r : Nat → Nat} : ∀ v : V, emb E (ren r v) = emb (fun l => E (r l)) v
  | .ptr _ _ _ | .slc _ _ _ _ _ | .map _ | .yld _ => by simp only [ren, emb]
  | .func f x y => by simp only [ren, emb, embs_rens x, embs_rens y]
  | .iface t v => by simp only [ren, emb, emb_ren v]
  | .agg cs => by simp only [ren, emb, embs_rens cs]
  | .tup cs => by simp only [ren, emb, embs_rens cs]
  | .bool _ | .int _ _ | .str _ | .nilp | .nils | .nilm | .nilf | .nili | .raw _ => by simp only [ren, emb]
theorem embs_rens {E : Env} {r : Nat → Nat} : ∀ vs : List V, embs E (rens r vs) = embs (fun l => E (r l)) vs
  | [] => by simp only [rens, embs]
  | v :: vs => by simp only [rens, embs, emb_ren v, embs_rens vs]
end


mutual
theorem WF_down {E : Env} {r : Nat → Nat} {N N0 : Nat} : ∀ {v : V}, WF E N (ren r v) → lab N0 v = true → WF (fun l => E (r l)) N0 v
  | .ptr l _ _, _, h => by simp only [lab, Nat.blt_eq] at h; simpa only [WF] using h
  | .map l, _, h => by simp only [lab, Nat.blt_eq] at h; simpa only [WF] using h
  | .yld l, _, h => by simp only [lab, Nat.blt_eq] at h; simpa only [WF] using h
  | .slc _ _ l _ _, hw, h => by simp only [lab, Nat.blt_eq] at h; simp only [ren, WF] at hw ⊢; exact ⟨h, hw.2⟩
  | .func _ f c, hw, h => by
    simp only [lab] at h
    split at h
    · rename_i h1
      simp only [ren, WF] at hw ⊢
      exact ⟨WFs_down hw.1 h1, WFs_down hw.2 h⟩
    · simp at h
  | .iface _ v, hw, h => by simp only [lab] at h; simp only [ren, WF] at hw ⊢; exact WF_down hw h
  | .agg cs, hw, h => by simp only [lab] at h; simp only [ren, WF] at hw ⊢; exact WFs_down hw h
  | .tup cs, hw, h => by simp only [lab] at h; simp only [ren, WF] at hw ⊢; exact WFs_down hw h
  | .bool _, _, _ | .int _ _, _, _ | .str _, _, _ | .nilp, _, _ | .nils, _, _ | .nilm, _, _ | .nilf, _, _ | .nili, _, _ | .raw _, _, _ => by simp only [WF]
theorem WFs_down {E : Env} {r : Nat → Nat} {N N0 : Nat} : ∀ {vs : List V}, WFs E N (rens r vs) → labs N0 vs = true → WFs (fun l => E (r l)) N0 vs
  | [], _, _ => trivial
  | v :: vs, hw, h => by
    simp only [labs] at h
    split at h
    · rename_i h1
      simp only [rens, WFs] at hw
      exact ⟨WF_down hw.1 h1, WFs_down hw.2 h⟩
    · simp at h
end

mutual
theorem WF_up {E' E2 : Env} {r : Nat → Nat} {N' N2 : Nat} (hE : ∀ j, j < N' → E2 (r j) = E' j ∧ r j < N2) : ∀ {v : V}, WF E' N' v → WF E2 N2 (ren r v)
  | .ptr l _ _, h => by simp only [ren, WF] at h ⊢; exact (hE l h).2
  | .map l, h => by simp only [ren, WF] at h ⊢; exact (hE l h).2
  | .yld l, h => by simp only [ren, WF] at h ⊢; exact (hE l h).2
  | .slc _ _ l _ _, h => by simp only [ren, WF] at h ⊢; rw [(hE l h.1).1]; exact ⟨(hE l h.1).2, h.2⟩
  | .func _ f c, h => by simp only [ren, WF] at h ⊢; exact ⟨WFs_up hE h.1, WFs_up hE h.2⟩
  | .iface _ v, h => by simp only [ren, WF] at h ⊢; exact WF_up hE h
  | .agg cs, h => by simp only [ren, WF] at h ⊢; exact WFs_up hE h
  | .tup cs, h => by simp only [ren, WF] at h ⊢; exact WFs_up hE h
  | .bool _, _ | .int _ _, _ | .str _, _ | .nilp, _ | .nils, _ | .nilm, _ | .nilf, _ | .nili, _ | .raw _, _ => by simp only [ren, WF]
theorem WFs_up {E' E2 : Env} {r : Nat → Nat} {N' N2 : Nat} (hE : ∀ j, j < N' → E2 (r j) = E' j ∧ r j < N2) : ∀ {vs : List V}, WFs E' N' vs → WFs E2 N2 (rens r vs)
  | [], _ => trivial
  | v :: vs, h => by simp only [rens, WFs] at h ⊢; exact ⟨WF_up hE h.1, WFs_up hE h.2⟩
end

theorem emb_up {E' E2 : Env} {r : Nat → Nat} {N' N2 : Nat} (hE : ∀ j, j < N' → E2 (r j) = E' j ∧ r j < N2) {v : V} (h : WF E' N' v) : emb E2 (ren r v) = emb E' v := by
  rw [emb_ren]; exact emb_ext (fun l hl => (hE l hl).1) v h
theorem embs_up {E' E2 : Env} {r : Nat → Nat} {N' N2 : Nat} (hE : ∀ j, j < N' → E2 (r j) = E' j ∧ r j < N2) {vs : List V} (h : WFs E' N' vs) : embs E2 (rens r vs) = embs E' vs := by
  rw [embs_rens]; exact embs_ext (fun l hl => (hE l hl).1) vs h

def renCol (r : Nat → Nat) : Col → Col
  | .val f => .val fun i => ren r (f i)
  | .int k f => .int k f
  | .bool f => .bool f
  | .str f => .str f
def renCols (r : Nat → Nat) : List Col → List Col
  | [] => []
  | c :: cs => renCol r c :: renCols r cs
theorem renCols_eq (r : Nat → Nat) : ∀ cs : List Col, renCols r cs = cs.map (renCol r)
  | [] => rfl
  | c :: cs => by simp [renCols, renCols_eq r cs]
def renOb (r : Nat → Nat) : Ob → Ob
  | .mem own ty pre n cols => .mem own ty (rens r pre) n (renCols r cols)
  | .mp ks f => .mp ks f
  | .loop st pd ts ps as bd d => .loop st pd (rens r ts) ps as bd (r d)
  | .dfr => .dfr
  | .dead => .dead
theorem renCol_at {r : Nat → Nat} (c : Col) (i : Nat) : (renCol r c).at i = ren r (c.at i) := by cases c <;> simp [renCol, Col.at, ren]
theorem renOb_own {r : Nat → Nat} (o : Ob) : (renOb r o).own = o.own := by cases o <;> rfl
theorem renOb_live {r : Nat → Nat} (o : Ob) : (renOb r o).live = o.live := by cases o <;> rfl

theorem RepOb.down {E : Env} {r : Nat → Nat} {N N0 : Nat} {w : World} {L : Loc} {o : Ob} (h : RepOb E N w L (renOb r o)) {k : Prop} (hl : labOb N0 o k) : RepOb (fun l => E (r l)) N0 w L o := by
  cases o with
  | mem own ty pre n cols =>
    simp only [labOb] at hl
    split at hl <;> try exact hl.elim
    rename_i hp
    have hc : labCols N0 n cols := by
      split at hl
      · trivial
      · exact hl.1
    simp only [renOb, rens_eq, renCols_eq] at h
    obtain ⟨h1, h2, h3, h4, h5, h6⟩ := h
    refine ⟨h1, by simpa using h2, fun j v hj => ?_, fun i hi j c hj => ?_, fun ho => ?_, fun hf => ?_, h6.2⟩
    · obtain ⟨a1, a2, a3⟩ := h3 j (ren r v) (by simp [hj])
      exact ⟨by rw [a1, emb_ren], by rw [ren_one] at a2; exact a2, WF_down a3 (labs_get hp hj)⟩
    · obtain ⟨a1, a2, a3⟩ := h4 i hi j (renCol r c) (by simp [hj])
      rw [renCol_at] at a1 a2 a3
      rw [List.length_map] at a1
      exact ⟨by rw [a1, emb_ren], by rw [ren_one] at a2; exact a2, WF_down a3 (labCols_get hc hj i hi)⟩
    · simpa using h5 ho
    · obtain ⟨g1, g2⟩ := h6.1 hf; exact ⟨by simpa using g1, g2⟩
  | mp kinds f => exact h
  | dfr => exact h
  | dead => trivial
  | loop st pd ts ps as bd d =>
    simp only [labOb] at hl
    split at hl <;> try exact hl.elim
    rename_i ht
    split at hl <;> try exact hl.elim
    rename_i hd
    obtain ⟨h0, h1, h2, fn, h3⟩ := h
    exact ⟨h0, by simpa [Nat.blt_eq] using hd, WFs_down h2 ht, fn, by rw [h3, embs_rens]⟩

theorem RepOb.up {E' E2 : Env} {r : Nat → Nat} {N' N2 : Nat} (hE : ∀ j, j < N' → E2 (r j) = E' j ∧ r j < N2) {w : World} {L : Loc} {o : Ob} (h : RepOb E' N' w L o) : RepOb E2 N2 w L (renOb r o) := by
  cases o with
  | mem own ty pre n cols =>
    obtain ⟨h1, h2, h3, h4, h5, h6⟩ := h
    simp only [renOb, rens_eq, renCols_eq]
    refine ⟨h1, by simpa using h2, fun j v hj => ?_, fun i hi j c hj => ?_, fun ho => ?_, fun hf => ?_, h6.2⟩
    · rw [List.getElem?_map] at hj
      cases hp : pre[j]? with
      | none => rw [hp] at hj; simp at hj
      | some u =>
        rw [hp] at hj; simp at hj; subst hj
        obtain ⟨a1, a2, a3⟩ := h3 j u hp
        exact ⟨by rw [a1, emb_up hE a3], by rw [ren_one]; exact a2, WF_up hE a3⟩
    · rw [List.getElem?_map] at hj
      cases hp : cols[j]? with
      | none => rw [hp] at hj; simp at hj
      | some u =>
        rw [hp] at hj; simp at hj; subst hj
        obtain ⟨a1, a2, a3⟩ := h4 i hi j u hp
        rw [renCol_at, List.length_map]
        exact ⟨by rw [a1, emb_up hE a3], by rw [ren_one]; exact a2, WF_up hE a3⟩
    · simpa using h5 ho
    · obtain ⟨g1, g2⟩ := h6.1 hf; exact ⟨by simpa using g1, g2⟩
  | mp kinds f => exact h
  | dfr => exact h
  | dead => trivial
  | loop st pd ts ps as bd d =>
    obtain ⟨h0, h1, h2, fn, h3⟩ := h
    refine ⟨h0, (hE d h1).2, WFs_up hE h2, fn, ?_⟩
    rw [h3, embs_up hE h2, (hE d h1).1]

/-! ### The small memory in the large one -/
def rho (ls : List Nat) (N : Nat) (j : Nat) : Nat := match ls[j]? with
  | some l => l
  | none => N + (j - ls.length)
def merge (r : Nat → Nat) : List Nat → List Ob → List Ob → List Ob
  | l :: ls, o :: Hs, H => merge r ls Hs (H.set l (renOb r o))
  | _, Hs, H => H ++ Hs.map (renOb r)

theorem merge_get {r : Nat → Nat} : ∀ {ls : List Nat} {Hs H : List Ob} {l : Nat} {o : Ob}, ls.length ≤ Hs.length → ls.Nodup → (∀ x ∈ ls, x < H.length) → (merge r ls Hs H)[l]? = some o →
    (∃ (j : Nat) (o' : Ob), ls[j]? = some l ∧ Hs[j]? = some o' ∧ o = renOb r o') ∨ (l ∉ ls ∧ H[l]? = some o) ∨ (∃ (j : Nat) (o' : Ob), ls.length ≤ j ∧ Hs[j]? = some o' ∧ o = renOb r o' ∧ l = H.length + (j - ls.length))
  | [], Hs, H, l, o, _, _, _, h => by
    simp only [merge] at h
    rw [List.getElem?_append] at h
    split at h
    · exact .inr (.inl ⟨by simp, h⟩)
    · rename_i hl
      rw [List.getElem?_map] at h
      cases hx : Hs[l - H.length]? with
      | none => rw [hx] at h; simp at h
      | some o' =>
        rw [hx] at h; simp at h
        exact .inr (.inr ⟨l - H.length, o', by simp, hx, h.symm, by simp; omega⟩)
  | x :: ls, [], H, l, o, hlen, _, _, h => by simp at hlen
  | x :: ls, y :: Hs, H, l, o, hlen, hnd, hlt, h => by
    simp only [merge] at h
    rw [List.nodup_cons] at hnd
    rcases merge_get (by simpa using hlen) hnd.2 (fun z hz => by rw [List.length_set]; exact hlt z (List.mem_cons_of_mem _ hz)) h with ⟨j, o', h1, h2, h3⟩ | ⟨h1, h2⟩ | ⟨j, o', h1, h2, h3, h4⟩
    · exact .inl ⟨j + 1, o', by simpa using h1, by simpa using h2, h3⟩
    · rw [List.getElem?_set] at h2
      split at h2
      · rename_i hx
        subst hx
        rw [if_pos (hlt x (List.mem_cons_self ..))] at h2
        injection h2 with h2
        exact .inl ⟨0, y, by simp, by simp, h2.symm⟩
      · rename_i hx
        exact .inr (.inl ⟨by simp [h1]; exact fun e => hx e.symm, h2⟩)
    · exact .inr (.inr ⟨j + 1, o', by simp; omega, by simpa using h2, h3, by rw [h4, List.length_set]; simp⟩)

theorem merge_length {r : Nat → Nat} : ∀ {ls : List Nat} {Hs H : List Ob}, ls.length ≤ Hs.length → (merge r ls Hs H).length = H.length + (Hs.length - ls.length)
  | [], Hs, H, _ => by simp [merge]
  | x :: ls, [], H, h => by simp at h
  | x :: ls, y :: Hs, H, h => by simp only [merge]; rw [merge_length (by simpa using h)]; simp

theorem labOb_any {N : Nat} {o : Ob} {k k' : Prop} (h : labOb N o k) (hk : k') : labOb N o k' := by
  cases o with
  | mem own ty pre n cols =>
    simp only [labOb] at h ⊢
    split at h <;> try exact h.elim
    split
    · exact hk
    · exact ⟨h.1, hk⟩
  | loop st pd ts ps as bd d =>
    simp only [labOb] at h ⊢
    split at h <;> try exact h.elim
    split at h <;> try exact h.elim
    exact hk
  | mp _ _ => exact hk
  | dfr => exact hk
  | dead => exact hk
theorem labH_each {N : Nat} : ∀ {H : List Ob} {k : Prop}, labH N H k → ∀ o ∈ H, labOb N o True
  | [], k, _, o, ho => by cases ho
  | x :: H, k, h, o, ho => by
    have hx : labOb N x True := labOb_any h trivial
    have hrest : labH N H k := by
      have := labOb_spec (E := fun _ => ⟨0, 0, 0, 0, true⟩) (M := 0) (w := default) (L := ⟨0, 0, 0, 0, true⟩) (o := .dead) (N := N) (k := True) trivial trivial
      cases x with
      | mem own ty pre n cols =>
        simp only [labH, labOb] at h
        split at h <;> try exact h.elim
        split at h
        · exact h
        · exact h.2
      | loop st pd ts ps as bd d =>
        simp only [labH, labOb] at h
        split at h <;> try exact h.elim
        split at h <;> try exact h.elim
        exact h
      | mp _ _ => exact h
      | dfr => exact h
      | dead => exact h
    rcases List.mem_cons.1 ho with rfl | ho
    · exact hx
    · exact labH_each hrest o ho

/-- The objects of the small memory stand in the large one. -/
def Stands (ls : List Nat) (H0 H : List Ob) : Prop :=
  ls.length = H0.length ∧ ls.Nodup ∧ (∀ (j : Nat) (l : Nat) (o : Ob), ls[j]? = some l → H0[j]? = some o → H[l]? = some (renOb (rho ls H.length) o))

theorem lift {P : Program} {f : FuncId} {args0 : List V} {H0 : List Ob} {post : V → List Ob → Prop} {E : Env} {w : World} {H : List Ob} {ls : List Nat} {k : Cont}
    (hs : ∀ E0, Rep E0 H0 w → WFs E0 H0.length args0 → Calls P f (embs E0 args0).toArray w (retP post E0 H0 w))
    (hst : Stands ls H0 H) (hlab : labH H0.length H0 True) (hla : labs H0.length args0 = true) (hlive : ∀ o ∈ H0, o.live = true)
    (hnew : ∀ v H', post v H' → ∀ (j : Nat) (o : Ob), H0.length ≤ j → H'[j]? = some o → o.live = true → o.own = true)
    (hk : ∀ v H', post v H' → k (ren (rho ls H.length) v) (merge (rho ls H.length) ls H' H))
    (hr : Rep E H w) (hw : WFs E H.length (rens (rho ls H.length) args0)) : Calls P f (embs E (rens (rho ls H.length) args0)).toArray w (retP k E H w) := by
  obtain ⟨hlen, hnd, hat⟩ := hst
  have lsget : ∀ j, j < H0.length → ∃ l, ls[j]? = some l ∧ rho ls H.length j = l := fun j hj => by
    have : j < ls.length := by omega
    exact ⟨ls[j], by simp [this], by simp [rho, this]⟩
  have lslt : ∀ x ∈ ls, x < H.length := fun x hx => by
    obtain ⟨j, hj⟩ := List.getElem?_of_mem hx
    have hj0 : j < H0.length := by rw [← hlen]; exact (List.getElem?_eq_some_iff.1 hj).1
    exact get_lt (hat j x _ hj (by simp [hj0] : H0[j]? = some H0[j]))
  have inj : ∀ j j' l, ls[j]? = some l → ls[j']? = some l → j = j' := fun j j' l h1 h2 => by
    obtain ⟨a1, b1⟩ := List.getElem?_eq_some_iff.1 h1
    obtain ⟨a2, b2⟩ := List.getElem?_eq_some_iff.1 h2
    exact (List.getElem_inj hnd).1 (b1.trans b2.symm)
  have hr0 : Rep (fun j => E (rho ls H.length j)) H0 w := by
    refine ⟨fun j o ho => ?_, fun j j' o o' hne h1 h2 h3 h4 hx hy => ?_⟩
    · obtain ⟨l, e1, e2⟩ := lsget j (get_lt ho)
      have h1 := hr.ob l _ (hat j l o e1 ho)
      have h2 := RepOb.down h1 (labH_each hlab o (List.mem_of_getElem? ho))
      rw [e2]
      exact h2
    · obtain ⟨l, e1, e2⟩ := lsget j (get_lt h1)
      obtain ⟨l', e1', e2'⟩ := lsget j' (get_lt h2)
      simp only [e2, e2'] at hx hy ⊢
      have hll : l ≠ l' := fun e => hne (inj j j' l e1 (e ▸ e1'))
      exact hr.sep l l' _ _ hll (hat j l o e1 h1) (hat j' l' o' e1' h2) (by rw [renOb_own]; exact h3) (by rw [renOb_live]; exact h4) hx hy
  have hw0 : WFs (fun j => E (rho ls H.length j)) H0.length args0 := WFs_down hw hla
  rw [embs_rens]
  refine Calls.mono (hs _ hr0 hw0) ?_
  rintro e w' ⟨v, H', E', rfl, hp, r', v', x'⟩
  have hN' : ls.length ≤ H'.length := by rw [hlen]; exact x'.len
  let E2 : Env := fun l => if l < H.length then E l else E' (l - H.length + ls.length)
  have hE : ∀ j, j < H'.length → E2 (rho ls H.length j) = E' j ∧ rho ls H.length j < (merge (rho ls H.length) ls H' H).length := by
    intro j hj
    rw [merge_length hN']
    by_cases hj0 : j < H0.length
    · obtain ⟨l, e1, e2⟩ := lsget j hj0
      have hl := lslt l (List.mem_of_getElem? e1)
      refine ⟨?_, by omega⟩
      rw [e2]
      simp only [E2, hl, if_true]
      have := x'.env j hj0
      rw [this, e2]
    · have hnone : ls[j]? = none := List.getElem?_eq_none (by omega)
      have e : rho ls H.length j = H.length + (j - ls.length) := by simp [rho, hnone]
      refine ⟨?_, by omega⟩
      rw [e]
      simp only [E2]
      rw [if_neg (by omega)]
      congr 1; omega
  have hold : ∀ l, l < H.length → E2 l = E l := fun l hl => by simp only [E2, hl, if_true]
  have hlenM : H.length ≤ (merge (rho ls H.length) ls H' H).length := by rw [merge_length hN']; omega
  have owned0 : ∀ b, Owned (fun j => E (rho ls H.length j)) H0 b → Owned E H b := by
    rintro b ⟨j, o, h1, h2, h0, h3⟩
    obtain ⟨l, e1, e2⟩ := lsget j (get_lt h1)
    exact ⟨l, _, hat j l o e1 h1, by rw [renOb_own]; exact h2, by rw [← e2]; exact h0, by rw [← e2]; exact h3⟩
  -- a label of the large memory that is none of ls, seen against a block of the small one
  have far : ∀ l o, l ∉ ls → H[l]? = some o → o.live = true → (E l).real = true → ∀ b, Owned (fun j => E (rho ls H.length j)) H0 b → (E l).block ≠ b := by
    rintro l o hl ho hlv hre b ⟨j, oj, h1, h2, h0, h3⟩ heq
    obtain ⟨lj, e1, e2⟩ := lsget j (get_lt h1)
    have hne : lj ≠ l := fun e => hl (e ▸ List.mem_of_getElem? e1)
    refine hr.sep lj l _ o hne (hat j lj oj e1 h1) ho (by rw [renOb_own]; exact h2) hlv (by rw [← e2]; exact h0) hre ?_
    rw [← e2, h3, heq]
  have small : ∀ j o', H'[j]? = some o' → E2 (rho ls H.length j) = E' j := fun j o' h => (hE j (get_lt h)).1
  have where_ : ∀ l o, (merge (rho ls H.length) ls H' H)[l]? = some o → (∃ (j : Nat) (o' : Ob), H'[j]? = some o' ∧ o = renOb (rho ls H.length) o' ∧ l = rho ls H.length j) ∨ (l ∉ ls ∧ H[l]? = some o) := by
    intro l o h
    rcases merge_get hN' hnd lslt h with ⟨j, o', h1, h2, h3⟩ | h1 | ⟨j, o', h1, h2, h3, h4⟩
    · exact .inl ⟨j, o', h2, h3, by simp [rho, h1]⟩
    · exact .inr h1
    · refine .inl ⟨j, o', h2, h3, ?_⟩
      have hnone : ls[j]? = none := List.getElem?_eq_none h1
      simp only [rho, hnone]
      exact h4
  refine ⟨ren (rho ls H.length) v, merge (rho ls H.length) ls H' H, E2, by rw [emb_up hE v'], hk v H' hp, ?_, WF_up hE v', ?_⟩
  · have others : ∀ l o, l ∉ ls → H[l]? = some o → RepOb E2 (merge (rho ls H.length) ls H' H).length w' (E2 l) o := by
      intro l o hl ho
      rw [hold l (get_lt ho)]
      cases hlv : o.live with
      | false => cases o <;> simp_all [Ob.live, RepOb]
      | true =>
        exact (hr.ob l o ho).keep hold hlenM (fun hre => x'.frame _ (hr.lt ho hlv hre) fun hown => far l o hl ho hlv hre _ hown rfl) x'.size
    refine ⟨fun l o h => ?_, fun l l' o o' hne h1 h2 h3 h4 hx hy => ?_⟩
    · rcases where_ l o h with ⟨j, o', g1, rfl, rfl⟩ | ⟨g1, g2⟩
      · rw [small j o' g1]; exact RepOb.up hE (r'.ob j o' g1)
      · exact others l o g1 g2
    · have blk : ∀ l o, l ∉ ls → H[l]? = some o → o.live = true → (E2 l).real = true → ∀ j o', H'[j]? = some o' → o'.own = true → (E' j).real = true → (E2 l).block ≠ (E' j).block := by
        intro l o hl ho hlv hre j o' hj hown hre' heq
        rw [hold l (get_lt ho)] at heq hre
        rcases x'.owns (E' j).block ⟨j, o', hj, hown, hre', rfl⟩ with h5 | h5
        · exact far l o hl ho hlv hre _ h5 heq
        · have := hr.lt ho hlv hre; omega
      have blk2 : ∀ l o, l ∉ ls → H[l]? = some o → o.own = true → (E2 l).real = true → ∀ j o', H'[j]? = some o' → o'.live = true → (E' j).real = true → (E2 l).block ≠ (E' j).block := by
        intro l o hl ho hown hre j o' hj hlv hre' heq
        by_cases hj0 : j < H0.length
        · rw [hold l (get_lt ho)] at heq hre
          obtain ⟨lj, e1, e2⟩ := lsget j hj0
          have hlj : E' j = E lj := by rw [x'.env j hj0, e2]
          have h0 : H0[j]? = some H0[j] := by simp [hj0]
          have hne : l ≠ lj := fun e => hl (e ▸ List.mem_of_getElem? e1)
          exact hr.sep l lj o _ hne ho (hat j lj _ e1 h0) hown (by rw [renOb_live]; exact hlive _ (List.mem_of_getElem? h0)) hre (by rw [← hlj]; exact hre') (by rw [heq, hlj])
        · have hown' := hnew v H' hp j o' (by omega) hj hlv
          exact blk l o hl ho (live_of_own hown) hre j o' hj hown' hre' heq
      rcases where_ l o h1 with ⟨j, oj, g1, rfl, rfl⟩ | ⟨g1, g2⟩ <;> rcases where_ l' o' h2 with ⟨j', oj', g1', rfl, rfl⟩ | ⟨g1', g2'⟩
      · rw [small j oj g1] at hx ⊢
        rw [small j' oj' g1'] at hy ⊢
        rw [renOb_own] at h3; rw [renOb_live] at h4
        exact r'.sep j j' oj oj' (fun e => hne (by rw [e])) g1 g1' h3 h4 hx hy
      · rw [small j oj g1] at hx ⊢
        rw [renOb_own] at h3
        exact fun e => blk l' o' g1' g2' h4 hy j oj g1 h3 hx e.symm
      · rw [small j' oj' g1'] at hy ⊢
        rw [renOb_live] at h4
        exact blk2 l o g1 g2 h3 hx j' oj' g1' h4 hy
      · rw [hold l (get_lt g2)] at hx ⊢
        rw [hold l' (get_lt g2')] at hy ⊢
        exact hr.sep l l' o o' hne g2 g2' h3 h4 hx hy
  · refine ⟨hlenM, hold, x'.os, x'.tape, x'.output, x'.size, fun b hb hn => x'.frame b hb fun h => hn (owned0 b h), fun b hb => ?_⟩
    obtain ⟨l, o, h1, h2, h0, h3⟩ := hb
    rcases where_ l o h1 with ⟨j, o', g1, rfl, rfl⟩ | ⟨g1, g2⟩
    · rw [small j o' g1] at h0 h3
      rw [renOb_own] at h2
      exact (x'.owns b ⟨j, o', g1, h2, h0, h3⟩).imp (owned0 b) id
    · rw [hold l (get_lt g2)] at h0 h3
      exact .inl ⟨l, o, g2, h2, h0, h3⟩
end Go.Proofs.YtonohiifmepjfaaDoor.Ev
