/-
  Own framework, part 16: a region that draws its order, reckoned.
-/
import Derived.Test.YtonohiifmepjfaaDoorEv15
namespace Go.Proofs.YtonohiifmepjfaaDoor.Ev
open Go Go.RowKit

theorem freeRow_spec {ops : Array Oper} {i : Nat} {oi : Oper} : ∀ {l : List Oper} {k : Nat}, freeRow ops i oi k l = true → ∀ j oj, l[j]? = some oj → k + j ≠ i → isBefore i oj.after.toList = false → isBefore (k + j) oi.after.toList = false → oi.apart ops oj = true
  | [], k, _, j, oj, h, _, _, _ => by simp at h
  | o :: l, k, h, j, oj, hj, hne, h1, h2 => by
    have rest : freeRow ops i oi (k + 1) l = true → ∀ j', j = j' + 1 → oi.apart ops oj = true := by
      intro hr j' hj'
      subst hj'
      exact freeRow_spec hr j' oj (by simpa using hj) (by omega) h1 (by rw [show k + 1 + j' = k + (j' + 1) by omega]; exact h2)
    simp only [freeRow] at h
    cases j with
    | succ j' =>
      split at h
      · exact rest h j' rfl
      · split at h
        · exact rest h j' rfl
        · split at h
          · exact rest h j' rfl
          · split at h
            · exact rest h j' rfl
            · simp at h
    | zero =>
      simp at hj; subst hj
      split at h
      · rename_i hb
        exact (hne (by rw [Nat.eq_of_beq_eq_true hb]; rfl)).elim
      · split at h
        · rename_i hb; rw [h1] at hb; simp at hb
        · split at h
          · rename_i hb; rw [show k + 0 = k from rfl] at h2; rw [h2] at hb; simp at hb
          · split at h
            · assumption
            · simp at h

theorem freeAll_spec {ops : Array Oper} : ∀ {l : List Oper} {k : Nat}, freeAll ops k l = true → ∀ i oi, l[i]? = some oi → tame oi.op = true ∧ (isQuiet oi.op = true → freeRow ops (k + i) oi 0 ops.toList = true)
  | [], k, _, i, oi, h => by simp at h
  | o :: l, k, h, i, oi, hi => by
    simp only [freeAll] at h
    split at h <;> try (simp at h; done)
    rename_i ht
    cases i with
    | succ i =>
      have rest : freeAll ops (k + 1) l = true → tame oi.op = true ∧ (isQuiet oi.op = true → freeRow ops (k + (i + 1)) oi 0 ops.toList = true) := by
        intro hr
        have := freeAll_spec hr i oi (by simpa using hi)
        rwa [show k + 1 + i = k + (i + 1) by omega] at this
      split at h
      · split at h
        · exact rest h
        · simp at h
      · exact rest h
    | zero =>
      simp at hi; subst hi
      refine ⟨ht, fun hq => ?_⟩
      rw [hq] at h
      simp only at h
      split at h
      · assumption
      · simp at h

theorem allListed_iff {listed : List Nat} : ∀ {es : List Edge}, allListed listed es = true ↔ ∀ e ∈ es, Region.binds .any e = true → memN e.on listed = true
  | [] => by simp [allListed]
  | e :: es => by
    simp only [allListed]
    split
    · rename_i hb
      split
      · rename_i hm; rw [allListed_iff]; simp [hm]
      · rename_i hm; simp [hb, hm]
    · rename_i hb
      rw [allListed_iff]; simp [hb]

theorem readyL_iff {listed : List Nat} {i : Nat} {o : Oper} : ∀ {l : List Oper} {k : Nat}, (i, o) ∈ readyL listed k l ↔ ∃ j, i = k + j ∧ l[j]? = some o ∧ readyAt listed i o = true
  | [], k => by simp [readyL]
  | x :: l, k => by
    have ih := readyL_iff (listed := listed) (i := i) (o := o) (l := l) (k := k + 1)
    have step : (∃ j, i = k + j ∧ (x :: l)[j]? = some o ∧ readyAt listed i o = true) ↔ (i = k ∧ x = o ∧ readyAt listed i o = true) ∨ ∃ j, i = k + 1 + j ∧ l[j]? = some o ∧ readyAt listed i o = true := by
      constructor
      · rintro ⟨j, h1, h2, h3⟩
        cases j with
        | zero => simp at h2; exact .inl ⟨h1, h2, h3⟩
        | succ j => exact .inr ⟨j, by omega, by simpa using h2, h3⟩
      · rintro (⟨h1, h2, h3⟩ | ⟨j, h1, h2, h3⟩)
        · exact ⟨0, h1, by simp [h2], h3⟩
        · exact ⟨j + 1, by omega, by simpa using h2, h3⟩
    rw [step]
    simp only [readyL]
    split
    · rename_i hr
      rw [List.mem_cons, ih]
      constructor
      · rintro (h | h)
        · injection h with h1 h2; subst h1; subst h2; exact .inl ⟨rfl, rfl, hr⟩
        · exact .inr h
      · rintro (⟨h1, h2, _⟩ | h)
        · subst h1; subst h2; exact .inl rfl
        · exact .inr h
    · rename_i hr
      rw [ih]
      constructor
      · exact .inr
      · rintro (⟨h1, h2, h3⟩ | h)
        · subst h1; subst h2; rw [hr] at h3; simp at h3
        · exact h

/-- The labels that are listed, as the machine keeps them. -/
def Lists (ops : Array Oper) (listed : List Nat) (L : Array Bool) : Prop := L.size = ops.size ∧ ∀ j, memN j listed = L.getD j false

theorem memN_cons {i j : Nat} {l : List Nat} : memN j (i :: l) = (decide (j = i) || memN j l) := by
  simp only [memN]
  split
  · rename_i h; simp [Nat.eq_of_beq_eq_true h]
  · rename_i h
    have : ¬ j = i := fun e => by subst e; simp at h
    simp [this]

theorem Lists.cons {ops : Array Oper} {listed : List Nat} {L : Array Bool} (h : Lists ops listed L) {i : Nat} (hi : i < ops.size) : Lists ops (i :: listed) (L.setIfInBounds i true) := by
  refine ⟨by simpa using h.1, fun j => ?_⟩
  rw [memN_cons, h.2 j]
  have hi' : i < L.size := by rw [h.1]; exact hi
  by_cases hji : j = i
  · subst hji; simp [hi']
  · have hij : i ≠ j := fun e => hji e.symm
    simp [hji, Array.getD_eq_getD_getElem?, Array.getElem?_setIfInBounds_ne hij]

theorem ready_iff {ops : Array Oper} {listed : List Nat} {L : Array Bool} (h : Lists ops listed L) {i : Nat} {o : Oper} : (i, o) ∈ readyL listed 0 ops.toList ↔ i ∈ Region.ready .any ops L ∧ ops[i]? = some o := by
  rw [readyL_iff, mem_ready]
  have unl : i < ops.size → (memN i listed = false ↔ L.getD i true = false) := by
    intro hi
    have hi' : i < L.size := by rw [h.1]; exact hi
    rw [h.2 i]
    simp [hi']
  constructor
  · rintro ⟨j, h1, h2, h3⟩
    have e : i = j := by omega
    subst e
    have ho : ops[i]? = some o := by simpa using h2
    have hlt : i < ops.size := (Array.getElem?_eq_some_iff.1 ho).1
    simp only [readyAt] at h3
    split at h3 <;> try (simp at h3; done)
    rename_i hm
    refine ⟨⟨(unl hlt).1 hm, o, ho, fun e he hb => ?_⟩, ho⟩
    rw [← h.2]
    exact allListed_iff.1 h3 e (by simpa using he) hb
  · rintro ⟨⟨h1, o', h2, h3⟩, ho⟩
    rw [ho] at h2; injection h2 with h2; subst h2
    have hlt : i < ops.size := (Array.getElem?_eq_some_iff.1 ho).1
    refine ⟨i, by omega, by simpa using ho, ?_⟩
    simp only [readyAt, (unl hlt).2 h1]
    refine allListed_iff.2 fun e he hb => ?_
    rw [h.2]
    exact h3 e (by simpa using he) hb

theorem ready_nil {ops : Array Oper} {listed : List Nat} {L : Array Bool} (h : Lists ops listed L) (hn : readyL listed 0 ops.toList = []) : Region.ready .any ops L = [] := by
  apply List.eq_nil_iff_forall_not_mem.2
  intro i hi
  obtain ⟨_, o, ho, _⟩ := mem_ready.1 hi
  have := (ready_iff h).2 ⟨hi, ho⟩
  rw [hn] at this
  cases this

theorem firstQuiet_some {i : Nat} {o : Oper} : ∀ {l : List (Nat × Oper)}, firstQuiet l = some (i, o) → (i, o) ∈ l ∧ isQuiet o.op = true
  | [], h => by simp [firstQuiet] at h
  | (j, x) :: l, h => by
    simp only [firstQuiet] at h
    split at h
    · rename_i hq; simp at h; obtain ⟨rfl, rfl⟩ := h; exact ⟨List.mem_cons_self .., hq⟩
    · exact ⟨List.mem_cons_of_mem _ (firstQuiet_some h).1, (firstQuiet_some h).2⟩
theorem firstQuiet_none : ∀ {l : List (Nat × Oper)}, firstQuiet l = none → ∀ x ∈ l, isQuiet x.2.op = false
  | [], _, x, hx => by cases hx
  | (j, y) :: l, h, x, hx => by
    simp only [firstQuiet] at h
    split at h
    · simp at h
    · rename_i hq
      rcases List.mem_cons.1 hx with rfl | hx
      · exact hq
      · exact firstQuiet_none h x hx
theorem evAll_mem {f : Nat × Oper → Prop} : ∀ {l : List (Nat × Oper)}, evAll f l → ∀ x ∈ l, f x
  | [], _, x, hx => by cases hx
  | [y], h, x, hx => by simp at hx; subst hx; exact h
  | y :: z :: l, h, x, hx => by
    rcases List.mem_cons.1 hx with rfl | hx
    · exact h.1
    · exact evAll_mem h.2 x hx

section
variable {P : Program} {E : Env} {H : List Ob} {w : World}

theorem set_same {ts : List V} {d : Nat} {v : V} (h : ts[d]? = some v) : ts.set d v = ts := by
  apply List.ext_getElem?
  intro i
  rw [List.getElem?_set]
  split
  · rename_i hd; subst hd
    rw [h]; simp [(List.getElem?_eq_some_iff.1 h).1]
  · rfl

theorem wanted_sound {o : Oper} {ops : Array Oper} {a : LAct} {k : Bool → LAct → Prop} (ha : ActOk E H.length a) (h : guardK o ops.toList a k) :
    ∃ want a', k want a' ∧ a'.conc E = a.conc E ∧ ActOk E H.length a' ∧ Region.wanted o (yielded ops (a.conc E).tmps) = want := by
  unfold guardK at h
  split at h
  · rename_i hg
    exact ⟨true, a, h, rfl, ha, by simp [Region.wanted, hg]⟩
  · rename_i j want hg
    split at h <;> try exact h.elim
    rename_i oj hoj
    split at h <;> try exact h.elim
    rename_i d hd
    have hoj' : ops[j]? = some oj := by simpa using hoj
    split at h <;> try exact h.elim
    · rename_i b hb
      have h := splitB_elim h
      rw [putK_iff] at h
      have e : a.put (some d) (.bool b) = a := by
        cases a
        simp only [LAct.put]
        rw [set_same hb]
      rw [e] at h
      refine ⟨_, a, h, rfl, ha, ?_⟩
      have : (a.conc E).tmps[d]? = some (.bool b) := by simp [LAct.conc, embs_eq, hb, emb]
      simp [Region.wanted, hg, yielded, hoj', hd, this]
    · rename_i hb
      refine ⟨_, a, h, rfl, ha, ?_⟩
      have : (a.conc E).tmps[d]? = some (.tuple #[]) := by simp [LAct.conc, embs_eq, hb, emb]
      simp [Region.wanted, hg, yielded, hoj', hd, this]

theorem pure_any {op : Op} (hp : isPure op = true) (a : LAct) (H H' : List Ob) : qV P op a H = qV P op a H' := by
  cases op <;> first | rfl | (simp [isPure] at hp; done) | skip
  rename_i c
  obtain ⟨callee, args, ts⟩ := c
  cases callee <;> first | rfl | skip
  rename_i b
  cases b <;> rfl

theorem recheck_spec {o : Oper} {k : Prop} : ∀ {rs : List Rec}, recheck P o H rs k → k ∧ ∀ r ∈ rs, isBefore r.i o.after.toList = true ∨ ∃ c, qV P r.op r.act H = some (c, r.val) ∧ c.holds
  | [], h => ⟨h, fun _ hr => by cases hr⟩
  | r :: rs, h => by
    simp only [recheck] at h
    have tail : recheck P o H rs k → (isBefore r.i o.after.toList = true ∨ ∃ c, qV P r.op r.act H = some (c, r.val) ∧ c.holds) → k ∧ ∀ r' ∈ r :: rs, isBefore r'.i o.after.toList = true ∨ ∃ c, qV P r'.op r'.act H = some (c, r'.val) ∧ c.holds := by
      intro h1 h2
      obtain ⟨g1, g2⟩ := recheck_spec h1
      refine ⟨g1, fun r' hr' => ?_⟩
      rcases List.mem_cons.1 hr' with rfl | hr'
      · exact h2
      · exact g2 r' hr'
    split at h
    · rename_i hb; exact tail h (.inl hb)
    · split at h
      · rename_i v hq; exact tail h.2 (.inr ⟨none, by rw [hq, h.1], trivial⟩)
      · rename_i c v hq; exact tail h.2.2 (.inr ⟨some c, by rw [hq, h.2.1], h.1⟩)
      · exact h.elim

/-- A reading that was taken early, as the machine makes it. -/
def reads (P : Program) (E : Env) (o : Oper) (a : LAct) (v : V) (W : World) : Prop := (execOp (a.conc E).eval o).run P W = .ok (.value (emb E v)) W

def Fit (P : Program) (E : Env) (N : Nat) (recs : List Rec) (rc : Nat × (World → Prop)) : Prop :=
  rc.2 = (fun _ => True) ∨ ∃ o a v, ActOk E N a ∧ WF E N v ∧ rc.2 = reads P E o a v ∧
    ((isPure o.op = true ∧ ∃ c, qV P o.op a [] = some (c, v) ∧ c.holds) ∨ (∃ r ∈ recs, r.i = rc.1 ∧ r.op = o.op ∧ r.act = a ∧ r.val = v))

theorem Fit.ext {E' : Env} {N N' : Nat} {recs : List Rec} {rc : Nat × (World → Prop)} (h : Fit P E N recs rc) (hE : ∀ l, l < N → E' l = E l) (hN : N ≤ N') : Fit P E' N' recs rc := by
  rcases h with h | ⟨o, a, v, h1, h2, h3, h4⟩
  · exact .inl h
  · refine .inr ⟨o, a, v, h1.ext hE hN, WF.ext hE hN _ h2, ?_, h4⟩
    rw [h3]
    funext W
    simp only [reads, conc_ext hE h1, emb_ext hE v h2]
theorem Fit.more {N : Nat} {recs : List Rec} {rc : Nat × (World → Prop)} (h : Fit P E N recs rc) (r : Rec) : Fit P E N (r :: recs) rc := by
  rcases h with h | ⟨o, a, v, h1, h2, h3, h4⟩
  · exact .inl h
  · exact .inr ⟨o, a, v, h1, h2, h3, h4.imp id fun ⟨r', g1, g2⟩ => ⟨r', List.mem_cons_of_mem _ g1, g2⟩⟩

theorem exempt_mono {ops : Array Oper} {L : Array Bool} {i x : Nat} (h : exempt ops L x) : exempt ops (L.setIfInBounds i true) x := by
  obtain ⟨j, oj, h1, h2, h3, h4, h5⟩ := h
  refine ⟨j, oj, h1, ?_, h3, h4, h5⟩
  by_cases hij : i = j
  · subst hij
    rcases Nat.lt_or_ge i L.size with h' | h'
    · simp [h']
    · simp
  · rw [getD_set_ne true hij]; exact h2
theorem Sx_mono {ops : Array Oper} {rs : List (Nat × (World → Prop))} {L : Array Bool} {i : Nat} (h : Sx ops rs L w) : Sx ops rs (L.setIfInBounds i true) w := fun r hr => (h r hr).imp exempt_mono id

theorem draw_gm (hNG : ∀ (f : Nat) (fn : Func), P.funcs[f]? = some fn → (fn.name == "runtime.NumGoroutine") = false) {cl : V → List V → List Ob → Cont → Prop} (hcl : CallOk P cl)
    {ops : Array Oper} (hfree : freeAll ops 0 ops.toList = true) {m : Nat} {k : LAct → List Ob → Prop} {G : Act → World → Prop} :
    ∀ (n : Nat) (listed : List Nat) (recs : List Rec) (a : LAct) (H : List Ob) (E : Env) (w : World) (L : Array Bool) (rs : List (Nat × (World → Prop))),
      evDraw cl P ops.toList n listed recs a H k → Rep E H w → ActOk E H.length a → Closed ops L → Lists ops listed L → (∀ rc ∈ rs, Fit P E H.length recs rc) → Sx ops rs L w →
      (∀ a' H' E' w', k a' H' → Rep E' H' w' → ActOk E' H'.length a' → Ext E H w E' H' w' → G (a'.conc E') w') →
      ∀ fuel, n ≤ fuel → gm Fence.wide m P ops (fun e A W => e = .normal ∧ G A W) rs fuel L (a.conc E) w := by
  have hsel : ∀ (j : Nat) (o : Oper), ops[j]? = some o → ∀ cs b, o.op ≠ .select cs b := fun j o ho cs b hop => by
    have := (freeAll_spec hfree j o (by simpa using ho)).1
    rw [hop] at this; simp [tame] at this
  have hapart : ∀ (i : Nat) (oi : Oper), ops[i]? = some oi → isQuiet oi.op = true → ∀ (j : Nat) (oj : Oper), ops[j]? = some oj → j ≠ i → isBefore i oj.after.toList = false → isBefore j oi.after.toList = false → oi.apart ops oj = true :=
    fun i oi hi hq j oj hj hne h1 h2 => by
      have h3 := (freeAll_spec hfree i oi (by simpa using hi)).2 hq
      rw [Nat.zero_add] at h3
      exact freeRow_spec h3 j oj (by simpa using hj) (by omega) h1 (by rw [Nat.zero_add]; exact h2)
  intro n
  induction n with
  | zero =>
    intro listed recs a H E w L rs h hr ha hc hl hf hS hG fuel _
    simp only [evDraw] at h
    split at h <;> try exact h.elim
    rename_i hn
    exact gm_done hS (ready_nil hl hn) ⟨rfl, hG a H E w h hr ha (Ext.refl E H w)⟩ fuel
  | succ n ih =>
    intro listed recs a H E w L rs h hr ha hc hl hf hS hG fuel hfuel
    obtain ⟨fuel, rfl⟩ : ∃ f, fuel = f + 1 := ⟨fuel - 1, by omega⟩
    simp only [evDraw] at h
    split at h
    · rename_i hn
      exact gm_done hS (ready_nil hl hn) ⟨rfl, hG a H E w h hr ha (Ext.refl E H w)⟩ _
    · rename_i x xs hx
      split at h
      · rename_i i o hq
        rw [← hx] at hq
        obtain ⟨hmem, hquiet⟩ := firstQuiet_some hq
        obtain ⟨hrdy, hio⟩ := (ready_iff hl).1 hmem
        have hlt : i < ops.size := (Array.getElem?_eq_some_iff.1 hio).1
        obtain ⟨want, a', h, e1, ha', hw⟩ := wanted_sound ha h
        rw [← e1]
        rw [← e1] at hw
        cases want with
        | true =>
          simp only at h
          split at h <;> try exact h.elim
          rename_i c v hqv
          rw [frcV_iff, putK_iff] at h
          have key : c.holds ∧ ∃ recs', evDraw cl P ops.toList n (i :: listed) recs' (a'.put o.dst v) H k ∧ (∀ rc, Fit P E H.length recs rc → Fit P E H.length recs' rc) ∧
              (isPure o.op = true ∨ ∃ r ∈ recs', r.i = i ∧ r.op = o.op ∧ r.act = a' ∧ r.val = v) := by
            split at h
            · rename_i hp
              split at h
              · exact ⟨trivial, recs, h, fun _ h => h, .inl hp⟩
              · exact ⟨h.1, recs, h.2, fun _ h => h, .inl hp⟩
            · split at h
              · exact ⟨trivial, _, h, fun _ h => h.more _, .inr ⟨_, List.mem_cons_self .., rfl, rfl, rfl, rfl⟩⟩
              · exact ⟨h.1, _, h.2, fun _ h => h.more _, .inr ⟨_, List.mem_cons_self .., rfl, rfl, rfl, rfl⟩⟩
          obtain ⟨hcond, recs', h, hfit, hrec⟩ := key
          obtain ⟨q1, q2⟩ := q_sound hr ha' (o := o) hqv hcond
          have hg := ih (i :: listed) recs' (a'.put o.dst v) H E w (L.setIfInBounds i true) ((i, reads P E o a' v) :: rs) h hr (put_ok ha' q2) (hc.set hrdy) (hl.cons hlt) (fun rc hrc => by
            rcases List.mem_cons.1 hrc with rfl | hrc
            · refine .inr ⟨o, a', v, ha', q2, rfl, ?_⟩
              rcases hrec with hp | hrec
              · exact .inl ⟨hp, c, by rw [← hqv]; exact pure_any hp _ _ _, hcond⟩
              · exact .inr hrec
            · exact hfit rc (hf rc hrc)) (fun r hr' => by
            rcases List.mem_cons.1 hr' with rfl | hr'
            · exact .inr q1
            · exact Sx_mono hS r hr') hG fuel (by omega)
          rw [put_conc] at hg
          exact hoist (fun _ => trivial) rfl hio hquiet hsel (fun c a w h => by simp at h) (hapart i o hio hquiet) fuel L (a'.conc E) w hc hrdy (.inl ⟨hw, fun W hW => hW⟩) q1 hg
        | false =>
          simp only at h
          rw [putK_iff] at h
          have hg := ih (i :: listed) recs (a'.put o.dst (.tup [])) H E w (L.setIfInBounds i true) ((i, fun _ => True) :: rs) h hr (put_ok ha' (by simp [WF, WFs])) (hc.set hrdy) (hl.cons hlt) (fun rc hrc => by
            rcases List.mem_cons.1 hrc with rfl | hrc
            · exact .inl rfl
            · exact hf rc hrc) (fun r hr' => by
            rcases List.mem_cons.1 hr' with rfl | hr'
            · exact .inr trivial
            · exact Sx_mono hS r hr') hG fuel (by omega)
          rw [put_conc] at hg
          exact hoist (fun _ => trivial) rfl hio hquiet hsel (fun c a w h => by simp at h) (hapart i o hio hquiet) fuel L (a'.conc E) w hc hrdy (.inr ⟨hw, rfl⟩) trivial hg
      · rename_i hq
        rw [← hx] at hq h
        have hall := evAll_mem h
        refine ⟨hS, fun h0 => ?_, fun i hi => ?_⟩
        · exfalso
          have hm : x ∈ readyL listed 0 ops.toList := by rw [hx]; exact List.mem_cons_self ..
          have := ((ready_iff hl (i := x.1) (o := x.2)).1 hm).1
          rw [h0] at this; cases this
        · obtain ⟨_, o, hio, _⟩ := mem_ready.1 hi
          have hmem := (ready_iff hl).2 ⟨hi, hio⟩
          have hlt : i < ops.size := (Array.getElem?_eq_some_iff.1 hio).1
          have hnq := firstQuiet_none hq _ hmem
          obtain ⟨want, a', h, e1, ha', hw⟩ := wanted_sound ha (hall _ hmem)
          rw [← e1]
          rw [← e1] at hw
          unfold wpOpIn
          simp only [hio]
          cases want with
          | true =>
            rw [if_pos hw]
            simp only at h
            refine step_sound hNG hcl h hr ha' none m fun v H' E' w' h hr' hv hx' => ?_
            rw [frcV_iff, putK_iff] at h
            obtain ⟨h, hre⟩ := recheck_spec h
            have ha'' : ActOk E' H'.length (a'.put o.dst v) := put_ok (ha'.ext hx'.env hx'.len) hv
            have hfit' : ∀ rc ∈ rs, Fit P E' H'.length recs rc := fun rc hrc => (hf rc hrc).ext hx'.env hx'.len
            have hg := ih (i :: listed) recs (a'.put o.dst v) H' E' w' (L.setIfInBounds i true) rs h hr' ha'' (hc.set hi) (hl.cons hlt) hfit' (fun rc hrc => by
              rcases hfit' rc hrc with h1 | ⟨o1, a1, v1, g1, g2, g3, g4⟩
              · exact .inr (by rw [h1]; trivial)
              · rcases g4 with ⟨hp, c, hqv, hcond⟩ | ⟨r, m1, m2, m3, m4, m5⟩
                · refine .inr ?_
                  rw [g3]
                  rw [pure_any hp a1 [] H'] at hqv
                  exact (q_sound hr' g1 (o := o1) hqv hcond).1
                · rcases hre r m1 with hb | ⟨c, hqv, hcond⟩
                  · refine .inl ⟨i, o, hio, ?_, hlt, hnq, by rw [← m2]; exact hb⟩
                    have : i < L.size := by rw [hl.1]; exact hlt
                    simp [this]
                  · refine .inr ?_
                    rw [g3]
                    rw [m3, m4, m5] at hqv
                    exact (q_sound hr' g1 (o := o1) hqv hcond).1) (fun a2 H2 E2 w2 k1 k2 k3 k4 => hG a2 H2 E2 w2 k1 k2 k3 (hx'.trans k4)) fuel (by omega)
            rw [put_conc, conc_ext hx'.env ha'] at hg
            exact hg
          | false =>
            rw [if_neg (by rw [hw]; simp)]
            simp only at h
            rw [putK_iff] at h
            refine ⟨fun _ _ => trivial, ?_⟩
            have hg := ih (i :: listed) recs (a'.put o.dst (.tup [])) H E w (L.setIfInBounds i true) rs h hr (put_ok ha' (by simp [WF, WFs])) (hc.set hi) (hl.cons hlt) hf (Sx_mono hS) hG fuel (by omega)
            rw [put_conc] at hg
            exact hg
end
end Go.Proofs.YtonohiifmepjfaaDoor.Ev
