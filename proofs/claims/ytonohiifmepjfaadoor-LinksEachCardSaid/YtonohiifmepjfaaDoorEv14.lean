/-
  Own framework, part 14: one operation, a call among them, at any fence that lets all in.
-/
import Derived.Test.YtonohiifmepjfaaDoorEv13
namespace Go.Proofs.YtonohiifmepjfaaDoor.Ev
open Go Go.RowKit

/-- The fence: wide, in a round or in none. -/
def fen (E : Env) : Option Nat → Fence
  | none => Fence.wide
  | some l => Fence.wide.inRound (E l).block

theorem fen_fn (E : Env) (rd : Option Nat) (f : FuncId) : (fen E rd).fn f := by cases rd <;> trivial
theorem fen_depth (E : Env) (rd : Option Nat) : (fen E rd).depth = none := by cases rd <;> rfl
theorem fen_inRound (E : Env) (rd : Option Nat) (l : Nat) : (fen E rd).inRound l = Fence.wide.inRound l := by cases rd <;> rfl
theorem callsIn_fen {E : Env} {rd : Option Nat} {m : Nat} {P : Program} {f : FuncId} {args : Array Value} {w : World} {R : Ending → World → Prop} (h : Calls P f args w R) : CallsIn (fen E rd) m P f args w R := by
  cases rd with
  | none => exact callsIn_wide.2 h
  | some l => exact (callsIn_wide.2 h : CallsIn Fence.wide m P f args w R)

def retP (k : Cont) (E : Env) (H : List Ob) (w : World) : Ending → World → Prop := fun e w' =>
  ∃ v H' E', e = .returned (emb E' v) ∧ k v H' ∧ Rep E' H' w' ∧ WF E' H'.length v ∧ Ext E H w E' H' w'

def CallOk (P : Program) (cl : V → List V → List Ob → Cont → Prop) : Prop :=
  ∀ (fv : V) (vs : List V) (H : List Ob) (k : Cont) (E : Env) (w : World), cl fv vs H k → Rep E H w → WF E H.length fv → WFs E H.length vs →
    (∃ f first cap fn c, fv = .func (.func f) first cap ∧ P.funcs[f]? = some fn ∧ fn.body = some c ∧ Calls P f (embs E (first ++ vs ++ cap)).toArray w (retP k E H w)) ∨
    (∃ l pd ts ps as bd d, fv = .yld l ∧ H[l]? = some (.loop .ready pd ts ps as bd d) ∧ vs.length = ps.size ∧
      ∀ (rd : Option Nat) (m : Nat) (f : FuncId), RoundIn (fen E rd) m P (E l).block f (embs E (setTmps ts ps.toList vs)).toArray as bd w (retP k E H w))

theorem embs_append (E : Env) (x y : List V) : embs E (x ++ y) = embs E x ++ embs E y := by simp [embs_eq]
theorem embs_setTmps (E : Env) : ∀ (ts : List V) (ps : List Tmp) (vs : List V), embs E (setTmps ts ps vs) = (ps.zip (embs E vs)).foldl (fun tmps (t, a) => tmps.set t a) (embs E ts)
  | ts, [], vs => by simp [setTmps]
  | ts, p :: ps, [] => by simp [setTmps, embs]
  | ts, p :: ps, v :: vs => by
    simp only [setTmps, embs, List.zip_cons_cons, List.foldl_cons]
    rw [embs_setTmps E (ts.set p v) ps vs]
    congr 1
    simp [embs_eq, List.map_set]
theorem foldl_set_array : ∀ (l : List (Tmp × Value)) (a : Array Value), (l.foldl (fun (tmps : Array Value) (x : Tmp × Value) => tmps.setIfInBounds x.1 x.2) a).toList = l.foldl (fun (tmps : List Value) (x : Tmp × Value) => tmps.set x.1 x.2) a.toList
  | [], a => rfl
  | x :: l, a => by simp only [List.foldl_cons]; rw [foldl_set_array l]; simp
theorem WFs_setTmps {E : Env} {N : Nat} : ∀ {ts : List V} {ps : List Tmp} {vs : List V}, WFs E N ts → WFs E N vs → WFs E N (setTmps ts ps vs)
  | ts, [], vs, h, _ => by simpa [setTmps] using h
  | ts, p :: ps, [], h, _ => by simpa [setTmps] using h
  | ts, p :: ps, v :: vs, h, hv => by
    simp only [setTmps]
    refine WFs_setTmps (WFs_iff.2 fun u hu => ?_) hv.2
    rcases List.mem_or_eq_of_mem_set hu with h1 | h1
    · exact (WFs_iff.1 h) u h1
    · subst h1; exact hv.1

section
variable {P : Program} {E : Env} {H : List Ob} {w : World}

theorem run_callFunc_body {f : FuncId} {fn : Func} {c : Code} (hf : P.funcs[f]? = some fn) (hb : fn.body = some c) (hNG : (fn.name == "runtime.NumGoroutine") = false) (args : Array Value) :
    (callFunc f args).run P w = .ok (.enter f args) w := by
  have h1 : fn.name ≠ "runtime.NumGoroutine" := by simpa using hNG
  simp [callFunc, hf, h1, hb, program, Sem.run]

theorem method_run {t : TypeId} {v : V} {name : String} {f : FuncId} {u : V} (h : methodV P t v name = some (f, u)) (n : Nat) :
    (method (n + 1) t (emb E v) name).run P w = .ok (f, emb E u) w ∧ u = v := by
  unfold methodV at h
  split at h <;> try (simp at h; done)
  rename_i i hi
  split at h <;> try (simp at h; done)
  rename_i m hm
  split at h <;> try (simp at h; done)
  rename_i hp
  split at h <;> try (simp at h; done)
  rename_i g ptr hfn
  have hm' : i.methods.find? (·.name == name) = some m := by rw [← Array.find?_toList]; exact hm
  split at h <;> try (simp at h; done)
  · rename_i el hu
    split at h <;> simp at h
    obtain ⟨rfl, rfl⟩ := h
    refine ⟨?_, rfl⟩
    simp [method, typeInfo, hi, hm', hp, follow, hfn, receiverAt, run_underlying hu, Place.get]
  · rename_i d hne hu
    split at h <;> simp at h
    obtain ⟨rfl, rfl⟩ := h
    refine ⟨?_, rfl⟩
    simp [method, typeInfo, hi, hm', hp, follow, hfn, receiverAt, run_underlying hu, Place.get]

theorem step_sound (hNG : ∀ (f : Nat) (fn : Func), P.funcs[f]? = some fn → (fn.name == "runtime.NumGoroutine") = false) {cl : V → List V → List Ob → Cont → Prop} (hcl : CallOk P cl)
    {o : Oper} {a : LAct} {k : Cont} (h : stepK cl P o.op a H k) (hr : Rep E H w) (ha : ActOk E H.length a) (rd : Option Nat) (m : Nat) {next : Act → World → Prop} {Q : Exit → Act → World → Prop}
    (hn : ∀ v H' E' w', k v H' → Rep E' H' w' → WF E' H'.length v → Ext E H w E' H' w' → next ((a.conc E).put o.dst (emb E' v)) w') :
    o.wpIn (fen E rd) m P (a.conc E) w next Q := by
  refine ⟨fun f _ => fen_fn E rd f, ?_⟩
  have hdep : (fen E rd).depth.isSome = true → 1 ≤ m := by rw [fen_depth]; simp
  have called : ∀ (fv : V) (vs : List V) (hd : ∀ c, o.op ≠ .defer c), cl fv vs H k → WF E H.length fv → WFs E H.length vs →
      (∀ f first cap, fv = .func (.func f) first cap → ∀ fn c, P.funcs[f]? = some fn → fn.body = some c → (execOp (a.conc E).eval o).run P w = .ok (.enter f (embs E (first ++ vs ++ cap)).toArray) w) →
      (∀ l L, fv = .yld l → w.heap[(E l).block]? = some (.loop L) → vs.length = L.params.size → (execOp (a.conc E).eval o).run P w = (Instr.yield (E l).block (embs E vs).toArray).run P w) →
      o.uponIn (fen E rd) m P (a.conc E) next Q ((o.semAt (fen E rd).round (a.conc E).eval).run P w) := by
    intro fv vs hd hc hw hws h1 h2
    rw [Oper.semAt_eq _ _ _ hd]
    rcases hcl fv vs H k E w hc hr hw hws with ⟨f, first, cap, fn, c, e1, e2, e3, e4⟩ | ⟨l, pd, ts, ps, as, bd, d, e1, e2, e3, e4⟩
    · rw [h1 f first cap e1 fn c e2 e3, Oper.uponIn_enter]
      refine ⟨hdep, (callsIn_fen e4).mono ?_⟩
      rintro e w' ⟨v, H', E', rfl, g1, g2, g3, g4⟩
      exact hn v H' E' w' g1 g2 g3 g4
    · obtain ⟨_, _, _, fn, h3⟩ := hr.ob l _ e2
      rw [h2 l _ e1 h3 e3]
      have hy : (Instr.yield (E l).block (embs E vs).toArray).run P w = .ok (.round (E l).block fn (embs E (setTmps ts ps.toList vs)).toArray as bd) w := by
        have hsz : (embs E vs).toArray.size = ps.size := by rw [embs_eq]; simpa using e3
        simp only [Instr.yield, Sem.run_bind, run_getLoop h3, Result.andThen_ok, hsz, ne_eq, not_true_eq_false, if_false, Sem.run_pure]
        congr 2
        apply Array.ext'
        rw [embs_setTmps]
        rw [← Array.foldl_toList, foldl_set_array]
        simp
      rw [hy, Oper.uponIn_round]
      refine ⟨hdep, (e4 rd (m - 1) fn).mono ?_⟩
      rintro e w' ⟨v, H', E', rfl, g1, g2, g3, g4⟩
      exact hn v H' E' w' g1 g2 g3 g4
  unfold stepK at h
  split at h
  · rename_i f args ats hop
    split at h <;> try exact h.elim
    rename_i fv hfv
    split at h <;> try exact h.elim
    rename_i vs hvs
    obtain ⟨e1, e2⟩ := ev_eval ha hfv
    obtain ⟨e3, e4⟩ := evs_eval ha hvs
    have e5 : args.map (a.conc E).eval = (embs E vs).toArray := by apply Array.ext'; simp [← e3]
    refine called fv vs (by rw [hop]; simp) h e2 e4 ?_ ?_
    · intro f' first cap hf' fn c hfn hb
      subst hf'
      simp only [execOp, hop, resolve, Sem.run_bind, e5, e1, emb, Deferred.ofValue, Sem.run_pure, Result.andThen_ok, invoke, run_callFunc_body hfn hb (hNG _ _ hfn)]
      simp [embs_append]
    · intro l L hl _ _
      subst hl
      simp only [execOp, hop, resolve, Sem.run_bind, e5, e1, emb, Deferred.ofValue, Sem.run_pure, Result.andThen_ok, invoke]
      simp
  · rename_i r name args ats hop
    split at h <;> try exact h.elim
    rename_i t v hv
    split at h <;> try exact h.elim
    rename_i vs hvs
    split at h <;> try exact h.elim
    rename_i f u hm
    obtain ⟨e1, e2⟩ := ev_eval ha hv
    obtain ⟨e3, e4⟩ := evs_eval ha hvs
    have e5 : args.map (a.conc E).eval = (embs E vs).toArray := by apply Array.ext'; simp [← e3]
    obtain ⟨n, hn'⟩ : ∃ n, P.types.size + Made.depth = n + 1 := ⟨P.types.size + (Made.depth - 1), by simp [Made.depth]⟩
    obtain ⟨m1, m2⟩ := method_run (E := E) (w := w) hm n
    subst m2
    refine called (.func (.func f) [] []) (u :: vs) (by rw [hop]; simp) h (by simp [WF, WFs]) ⟨e2, e4⟩ ?_ (fun l L hl => by simp at hl)
    intro f' first cap hf' fn c hfn hb
    simp at hf'
    obtain ⟨rfl, rfl, rfl⟩ := hf'
    simp only [execOp, hop, resolve, Sem.run_bind, e5, e1, emb, Sem.run_pure, Result.andThen_ok, invoke]
    simp [callMethod, hn', m1, run_callFunc_body hfn hb (hNG _ _ hfn), program, Sem.run, embs]
  · rename_i hne1 hne2
    have hd : ∀ c, o.op ≠ .defer c := by
      intro c hc
      rw [hc] at h
      simp [opK, qV, effK] at h
    rw [Oper.semAt_eq _ _ _ hd]
    obtain ⟨v, H', E', w', g1, g2, g3, g4, g5⟩ := op_sound hr ha h
    rw [frcL_iff, frcN_iff] at g1
    rcases g5 with g5 | ⟨rfl, g5⟩
    · rw [g5, Oper.uponIn_value]; exact hn v H' E' w' g1 g2 g3 g4
    · rw [g5, Oper.uponIn_skip]; exact hn _ H' E' w' g1 g2 g3 g4
end
end Go.Proofs.YtonohiifmepjfaaDoor.Ev
