/-
  Own framework, part 8: a map written, slices made, append, clear, bytes as a string.
-/
import Derived.Test.YtonohiifmepjfaaDoorEv7
namespace Go.Proofs.YtonohiifmepjfaaDoor.Ev
open Go Go.RowKit

section
variable {P : Program} {E : Env} {H : List Ob} {w : World}

/-- An object of one's own is turned, the block with it. -/
theorem Rep.turn (hr : Rep E H w) {l : Nat} {o : Ob} (hl : H[l]? = some o) (ho : o.own = true) {o' : Ob} {w' : World}
    (hos : w'.os = w.os) (htape : w'.tape = w.tape) (hout : w'.output = w.output) (hsize : w'.heap.size = w.heap.size)
    (hre : (E l).real = true) (hother : ∀ b, b ≠ (E l).block → w'.heap[b]? = w.heap[b]?) (hob : RepOb E H.length w' (E l) o') :
    Rep E (H.set l o') w' ∧ Ext E H w E (H.set l o') w' := by
  have hll : l < H.length := (List.getElem?_eq_some_iff.1 hl).1
  have old : ∀ (l3 : Nat) (o3 : Ob), (H.set l o')[l3]? = some o3 → (l3 = l ∧ o3 = o') ∨ (l3 ≠ l ∧ H[l3]? = some o3) := by
    intro l3 o3 h3
    rw [List.getElem?_set] at h3
    split at h3
    · rename_i heq; subst heq; injection h3 with h3; exact .inl ⟨rfl, h3.symm⟩
    · rename_i hne; exact .inr ⟨fun e => hne e.symm, h3⟩
  refine ⟨⟨fun l3 o3 h3 => ?_, fun l1 l2 o1 o2 hne h1 h2 h3 h4 hx hy => ?_⟩, ⟨by simp, fun _ _ => rfl, hos, htape, hout, by omega, fun b _ hn => hother b (fun e => hn ⟨l, o, hl, ho, hre, e.symm⟩), fun b hb => ?_⟩⟩
  · rw [List.length_set]
    rcases old l3 o3 h3 with ⟨rfl, rfl⟩ | ⟨hne, h3⟩
    · exact hob
    · cases hlive : o3.live with
      | false => cases o3 <;> simp_all [Ob.live, RepOb]
      | true => exact (hr.ob l3 o3 h3).keep (fun _ _ => rfl) (Nat.le_refl _) (fun hre3 => hother _ (Ne.symm (hr.sep l l3 o o3 (Ne.symm hne) hl h3 ho hlive hre hre3))) (by omega)
  · rcases old l1 o1 h1 with ⟨a1, b1⟩ | ⟨a1, b1⟩ <;> rcases old l2 o2 h2 with ⟨a2, b2⟩ | ⟨a2, b2⟩
    · exact absurd (a1.trans a2.symm) hne
    · rw [a1] at hne hx ⊢; exact hr.sep _ _ o o2 hne hl b2 ho h4 hx hy
    · rw [a2] at hne hy ⊢; exact hr.sep _ _ o1 o hne b1 hl h3 (live_of_own ho) hx hy
    · exact hr.sep _ _ o1 o2 hne b1 b2 h3 h4 hx hy
  · obtain ⟨l3, o3, h3, h4, h5⟩ := hb
    rcases old l3 o3 h3 with ⟨rfl, rfl⟩ | ⟨hne, h3⟩
    · exact .inl ⟨_, o, hl, ho, h5⟩
    · exact .inl ⟨l3, o3, h3, h4, h5⟩

/-! ### m[n] = v -/
def updZ {α : Type} (f : Int → Option α) (n : Int) (x : α) : Int → Option α := fun m => if m = n then some x else f m

def kread : List IntKind → List V → Option (List Int)
  | [], [] => some []
  | k :: ks, .int k' n :: vs => match decide (k = k') with
    | true => match kread ks vs with
      | some ns => some (n :: ns)
      | none => none
    | false => none
  | _, _ => none

theorem kread_cells : ∀ {ks : List IntKind} {vs : List V} {ns : List Int} {g : Nat → Int} {j : Nat}, kread ks vs = some ns → (∀ i n, ns[i]? = some n → g (j + i) = n) → embs E vs = kcells ks j g
  | [], [], ns, g, j, _, _ => by simp [embs, kcells]
  | [], v :: vs, ns, g, j, h, _ => by simp [kread] at h
  | k :: ks, [], ns, g, j, h, _ => by simp [kread] at h
  | k :: ks, v :: vs, ns, g, j, h, hg => by
    cases v <;> simp only [kread] at h <;> try (simp at h; done)
    rename_i k' n
    split at h
    · rename_i hk
      simp only [decide_eq_true_eq] at hk
      subst hk
      split at h
      · rename_i ms hm
        simp at h; subst h
        have := kread_cells (g := g) (j := j + 1) hm (fun i n hi => by
          have := hg (i + 1) n (by simpa using hi)
          rwa [show j + (i + 1) = j + 1 + i by omega] at this)
        have h0 := hg 0 n (by simp)
        simp only [Nat.add_zero] at h0
        simp [embs, kcells, emb, this, h0]
      · simp at h
    · simp at h

def mapUpdateV (P : Program) (t : TypeId) (m i v : V) (H : List Ob) : Option (List Ob) :=
  match P.underlying t with
  | some (.map kt _) => match P.underlying kt with
    | some (.int .i64) => match i with
      | .int .i64 n => match m with
        | .map l => match H[l]? with
          | some (.mp ks f) => match v with
            | .agg vs => match kread ks vs with
              | some ns => some (H.set l (.mp ks (updZ f n fun j => ns.getD j 0)))
              | none => none
            | _ => none
          | _ => none
        | _ => none
      | _ => none
    | _ => none
  | _ => none

theorem mget_push {n m : Int} {v : Value} {c : Nat} : ∀ {es : List MapEntry}, (∀ e ∈ es, ∃ m, e.key = .int .i64 m) → mget n es = none →
    mget m (es ++ [⟨.int .i64 n, v, c⟩]) = if m = n then some v else mget m es
  | [], _, _ => by simp [mget]
  | e :: es, hk, hn => by
    obtain ⟨q, hq⟩ := hk e (List.mem_cons_self ..)
    simp only [mget, hq] at hn
    split at hn
    · simp at hn
    · rename_i hnq
      have ih := mget_push (m := m) (v := v) (c := c) (fun x hx => hk x (List.mem_cons_of_mem _ hx)) hn
      simp only [List.cons_append, mget, hq, ih]
      by_cases hmn : m = n
      · subst hmn; simp at hnq; simp [hnq]
      · simp [hmn]

theorem mget_modify {n m : Int} {v : Value} {kv : Value} : ∀ {es : List MapEntry} {j : Nat}, (∀ e ∈ es, ∃ m, e.key = .int .i64 m) → kv = .int .i64 n →
    (∃ e, es[j]? = some e ∧ e.key = .int .i64 n) → (∀ j' e', j' < j → es[j']? = some e' → e'.key ≠ .int .i64 n) →
    mget m (es.modify j fun e => { e with key := kv, val := v }) = if m = n then some v else mget m es
  | [], j, _, _, ⟨e, h, _⟩, _ => by simp at h
  | e :: es, 0, hk, hkv, ⟨e', h, hkey⟩, _ => by
    simp at h; subst h
    subst hkv
    simp only [List.modify_zero_cons, mget, hkey]
    by_cases hmn : m = n <;> simp [hmn]
  | e :: es, j + 1, hk, hkv, ⟨e', h, hkey⟩, hfirst => by
    obtain ⟨q, hq⟩ := hk e (List.mem_cons_self ..)
    have hqn : q ≠ n := fun e1 => hfirst 0 e (by omega) (by simp) (by rw [hq, e1])
    have ih := mget_modify (m := m) (v := v) (j := j) (fun x hx => hk x (List.mem_cons_of_mem _ hx)) hkv ⟨e', by simpa using h, hkey⟩ (fun j' e'' hj' he => hfirst (j' + 1) e'' (by omega) (by simpa using he))
    simp only [List.modify_succ_cons, mget, hq, ih]
    by_cases hmn : m = n
    · subst hmn; simp [Ne.symm hqn]
    · simp [hmn]

theorem mapUpdate_sound {t : TypeId} {m i v : V} {H' : List Ob} (hr : Rep E H w) (h : mapUpdateV P t m i v H = some H') :
    ∃ w', (Instr.mapUpdate t (emb E m) (emb E i) (emb E v)).run P w = .ok () w' ∧ Rep E H' w' ∧ Ext E H w E H' w' := by
  unfold mapUpdateV at h
  split at h <;> try (simp at h; done)
  rename_i kt el hu
  split at h <;> try (simp at h; done)
  rename_i hk
  split at h <;> try (simp at h; done)
  rename_i n
  split at h <;> try (simp at h; done)
  rename_i l
  split at h <;> try (simp at h; done)
  rename_i ks f hl
  split at h <;> try (simp at h; done)
  rename_i vs
  split at h <;> try (simp at h; done)
  rename_i ns hns
  simp at h; subst h
  obtain ⟨hre, es, clock, hb, he1, he2⟩ := hr.ob l _ hl
  have hbl : (E l).block < w.heap.size := (Array.getElem?_eq_some_iff.1 hb).1
  have hcells : embs E vs = kcells ks 0 (fun j => ns.getD j 0) := kread_cells hns (fun i n hi => by simp [List.getD, hi])
  obtain ⟨r, f1, f2, f3⟩ := findNow_get (kk := .i64) (n := n) (es := es.toList) (i := 0) he1
  have hget : (getObj (E l).block).run P w = .ok (.map es clock) w := by simp [getObj, Sem.run, hb]
  have hset : ∀ o : Obj, (setObj (E l).block o).run P w = .ok () { w with heap := w.heap.setIfInBounds (E l).block o } := fun o => by simp [setObj, Sem.run, hb]
  cases r with
  | none =>
    have hnone : mget n es.toList = none := by rw [← f2]; rfl
    refine ⟨{ w with heap := w.heap.setIfInBounds (E l).block (.map (es.push ⟨.int .i64 n, .agg (embs E vs).toArray, clock⟩) (clock + 1)) }, ?_,
      hr.turn hl rfl (o' := .mp ks _) rfl rfl rfl (by simp) hre (fun b hne => by rw [Array.getElem?_setIfInBounds, if_neg (fun e => hne e.symm)]) ⟨hre, es.push ⟨.int .i64 n, .agg (embs E vs).toArray, clock⟩, clock + 1, ?_, ?_, ?_⟩⟩
    · simp only [Instr.mapUpdate, Sem.run_bind, run_underlying hu, Result.andThen_ok, emb, hget, checkKey_int hk, Instr.findKey, run_underlying hk, f1, Sem.run_pure, hset]
    · simp [hbl]
    · intro e he
      simp at he
      rcases he with he | rfl
      · exact he1 e (by simpa using he)
      · exact ⟨n, rfl⟩
    · intro m
      rw [Array.toList_push, mget_push he1 hnone, he2 m]
      unfold updZ
      split
      · simp [hcells]
      · rfl
  | some x =>
    obtain ⟨j, v0⟩ := x
    obtain ⟨_, e, g1, g2, g3, g4⟩ := f3 j v0 rfl
    simp only [Nat.sub_zero] at g1 g4
    have hkey : ((es[j]?).map (·.key)).getD (.int .i64 n) = .int .i64 n := by
      have : es[j]? = some e := by simpa using g1
      simp [this, g2]
    refine ⟨{ w with heap := w.heap.setIfInBounds (E l).block (.map (es.modify j fun e => { e with key := .int .i64 n, val := .agg (embs E vs).toArray }) clock) }, ?_,
      hr.turn hl rfl (o' := .mp ks _) rfl rfl rfl (by simp) hre (fun b hne => by rw [Array.getElem?_setIfInBounds, if_neg (fun e => hne e.symm)]) ⟨hre, es.modify j fun e => { e with key := .int .i64 n, val := .agg (embs E vs).toArray }, clock, ?_, ?_, ?_⟩⟩
    · simp only [Instr.mapUpdate, Sem.run_bind, run_underlying hu, Result.andThen_ok, emb, hget, checkKey_int hk, Instr.findKey, run_underlying hk, f1, Sem.run_pure, hkey, Instr.keyThatStays, Instr.sameBits, beq_self_eq_true, Bool.and_self, if_true, hset]
    · simp [hbl]
    · intro e' he'
      rw [Array.toList_modify] at he'
      obtain ⟨i', hi'⟩ := List.getElem?_of_mem he'
      rw [List.getElem?_modify] at hi'
      cases hx : es.toList[i']? with
      | none => rw [hx] at hi'; simp at hi'
      | some y =>
        rw [hx] at hi'
        simp at hi'
        split at hi'
        · subst hi'; exact ⟨n, rfl⟩
        · subst hi'; exact he1 _ (List.mem_of_getElem? hx)
    · intro m
      rw [Array.toList_modify, mget_modify he1 rfl ⟨e, g1, g2⟩ (fun j' e' hj' he' => g4 j' e' hj' he'), he2 m]
      unfold updZ
      split
      · simp [hcells]
      · rfl
end
end Go.Proofs.YtonohiifmepjfaaDoor.Ev
