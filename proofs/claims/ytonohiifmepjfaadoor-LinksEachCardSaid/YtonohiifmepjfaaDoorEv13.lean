/-
  Own framework, part 13: the records of ranges over functions; ways out of a function.
-/
import Derived.Test.YtonohiifmepjfaaDoorEv12
namespace Go.Proofs.YtonohiifmepjfaaDoor.Ev
open Go Go.RowKit

theorem conc_ext {E E' : Env} {N : Nat} (h : ∀ l, l < N → E' l = E l) {a : LAct} (ha : ActOk E N a) : a.conc E' = a.conc E := by
  unfold LAct.conc
  rw [embs_ext h _ ha.1]
  congr 1
  apply List.map_congr_left
  intro d hd
  rw [h d (ha.2 d hd)]
theorem ActOk.ext {E E' : Env} {N N' : Nat} (h : ∀ l, l < N → E' l = E l) (hN : N ≤ N') {a : LAct} (ha : ActOk E N a) : ActOk E' N' a :=
  ⟨WFs.ext h hN _ ha.1, fun d hd => Nat.lt_of_lt_of_le (ha.2 d hd) hN⟩

section
variable {P : Program} {E : Env} {H : List Ob} {w : World}

/-- A loop's record is turned. -/
theorem Rep.setLoop (hr : Rep E H w) {l : Nat} {st : LoopState} {pd : Option Code} {ts : List V} {ps : Array Tmp} {as bd : Code} {d : Nat} (hl : H[l]? = some (.loop st pd ts ps as bd d))
    (st' : LoopState) (pd' : Option Code) :
    ∃ fn, w.heap[(E l).block]? = some (.loop ⟨st, pd, fn, (embs E ts).toArray, ps, as, bd, (E d).block⟩) ∧ ∀ L, L = ⟨st', pd', fn, (embs E ts).toArray, ps, as, bd, (E d).block⟩ →
      (setObj (E l).block (.loop L)).run P w = .ok () { w with heap := w.heap.setIfInBounds (E l).block (.loop L) } ∧
      Rep E (H.set l (.loop st' pd' ts ps as bd d)) { w with heap := w.heap.setIfInBounds (E l).block (.loop L) } ∧
      Ext E H w E (H.set l (.loop st' pd' ts ps as bd d)) { w with heap := w.heap.setIfInBounds (E l).block (.loop L) } := by
  obtain ⟨hre, h1, h2, fn, h3⟩ := hr.ob l _ hl
  have hbl : (E l).block < w.heap.size := (Array.getElem?_eq_some_iff.1 h3).1
  refine ⟨fn, h3, fun L hL => ⟨by simp [setObj, Sem.run, h3], ?_⟩⟩
  subst hL
  exact hr.turn hl rfl (o' := .loop st' pd' ts ps as bd d) rfl rfl rfl (by simp) hre (fun b hne => by rw [Array.getElem?_setIfInBounds, if_neg (fun e => hne e.symm)]) ⟨hre, h1, h2, fn, by simp [hbl]⟩

theorem run_getLoop {b : Nat} {L : Loop} (h : w.heap[b]? = some (.loop L)) : (Instr.getLoop b).run P w = .ok L w := by
  simp [Instr.getLoop, getObj, Sem.run, h]

theorem begin_sound (hr : Rep E H w) {l : Nat} {pd : Option Code} {ts : List V} {ps : Array Tmp} {as bd : Code} {d : Nat} (hl : H[l]? = some (.loop .ready pd ts ps as bd d)) :
    ∃ w', (Instr.beginRound (E l).block).run P w = .ok () w' ∧ Rep E (H.set l (.loop .busy pd ts ps as bd d)) w' ∧ Ext E H w E (H.set l (.loop .busy pd ts ps as bd d)) w' := by
  obtain ⟨fn, h1, h2⟩ := hr.setLoop (P := P) hl .busy pd
  obtain ⟨s1, s2, s3⟩ := h2 _ rfl
  exact ⟨_, by simp [Instr.beginRound, run_getLoop h1, s1], s2, s3⟩

theorem end_sound (hr : Rep E H w) {l : Nat} {st : LoopState} {pd : Option Code} {ts : List V} {ps : Array Tmp} {as bd : Code} {d : Nat} (hl : H[l]? = some (.loop st pd ts ps as bd d)) (jump : Option Code) :
    ∃ w', (Instr.endRound (E l).block jump).run P w = .ok (.bool jump.isNone) w' ∧ Rep E (H.set l (.loop (if jump.isNone then .ready else .done) jump ts ps as bd d)) w' ∧
      Ext E H w E (H.set l (.loop (if jump.isNone then .ready else .done) jump ts ps as bd d)) w' := by
  obtain ⟨fn, h1, h2⟩ := hr.setLoop (P := P) hl (if jump.isNone then .ready else .done) jump
  obtain ⟨s1, s2, s3⟩ := h2 _ rfl
  exact ⟨_, by simp only [Instr.endRound, Sem.run_bind, run_getLoop h1, Result.andThen_ok, s1, Sem.run_pure], s2, s3⟩

theorem endLoop_sound (hr : Rep E H w) {l : Nat} {st : LoopState} {pd : Option Code} {ts : List V} {ps : Array Tmp} {as bd : Code} {d : Nat} (hl : H[l]? = some (.loop st pd ts ps as bd d)) (hst : st ≠ .busy) :
    ∃ w', (Instr.endLoop (E l).block).run P w = .ok pd w' ∧ Rep E (H.set l (.loop .exhausted pd ts ps as bd d)) w' ∧ Ext E H w E (H.set l (.loop .exhausted pd ts ps as bd d)) w' := by
  obtain ⟨fn, h1, h2⟩ := hr.setLoop (P := P) hl .exhausted pd
  obtain ⟨s1, s2, s3⟩ := h2 _ rfl
  have hb : (st == LoopState.busy) = false := by cases st <;> first | rfl | exact absurd rfl hst
  exact ⟨_, by simp only [Instr.endLoop, Sem.run_bind, run_getLoop h1, Result.andThen_ok, hb, Bool.false_eq_true, if_false, Sem.run_pure, s1], s2, s3⟩

/-- A block for a loop's deferred calls is taken over: there are none. -/
theorem take_sound (hr : Rep E H w) {l : Nat} (hl : H[l]? = some .dfr) :
    ∃ w', (Instr.takeDeferred (E l).block).run P w = .ok [] w' ∧ Rep E (H.set l .dead) w' ∧ Ext E H w E (H.set l .dead) w' := by
  obtain ⟨hre, h1⟩ : (E l).real = true ∧ w.heap[(E l).block]? = some (.deferred (some [])) := hr.ob l _ hl
  have hs : (setObj (E l).block (.deferred none)).run P w = .ok () { w with heap := w.heap.setIfInBounds (E l).block (.deferred none) } := by simp [setObj, Sem.run, h1]
  refine ⟨{ w with heap := w.heap.setIfInBounds (E l).block (.deferred none) }, by simp [Instr.takeDeferred, getObj, Sem.run, h1, hs], hr.turn hl rfl (o' := .dead) rfl rfl rfl (by simp) hre (fun b hne => by rw [Array.getElem?_setIfInBounds, if_neg (fun e => hne e.symm)]) trivial⟩

theorem heap_new (w : World) (o : Obj) : (w.alloc o).heap[w.heap.size]? = some o := by
  show (w.heap.push o)[w.heap.size]? = some o
  simp
theorem run_newObj' (w : World) (o : Obj) : (newObj o).run P w = .ok w.heap.size (w.alloc o) := rfl
theorem size_new (w : World) (o : Obj) : (w.alloc o).heap.size = w.heap.size + 1 := by
  show (w.heap.push o).size = _
  simp

/-- The record (and the block, at an outermost loop) of a range over a function. -/
theorem enter_outer (hr : Rep E H w) (fn : FuncId) {ts : List V} (ps : Array Tmp) (as bd : Code) (hts : WFs E H.length ts) :
    ∃ E' w', (Instr.enterLoop fn (embs E ts).toArray ps as bd none).run P w = .ok ((E' (H.length + 1)).block, [{ target := .collected (E' H.length).block, args := #[] }]) w' ∧
      Rep E' (H ++ [.dfr, .loop .ready none ts ps as bd H.length]) w' ∧ Ext E H w E' (H ++ [.dfr, .loop .ready none ts ps as bd H.length]) w' := by
  obtain ⟨E1, hE1⟩ : ∃ E1, E1 = setE E H.length ⟨w.heap.size, 0, 0, 0, true⟩ := ⟨_, rfl⟩
  obtain ⟨r1, x1⟩ := hr.push (.deferred (some [])) .dfr ⟨w.heap.size, 0, 0, 0, true⟩ (fun _ => rfl) ⟨rfl, heap_new w _⟩
  rw [← hE1] at r1 x1
  have hE1n : E1 H.length = ⟨w.heap.size, 0, 0, 0, true⟩ := by rw [hE1]; exact setE_new
  have hts1 : embs E1 ts = embs E ts := embs_ext x1.env _ hts
  have hN : (H ++ [Ob.dfr]).length = H.length + 1 := by simp
  have hold : ∀ L l, l < H.length + 1 → setE E1 (H ++ [Ob.dfr]).length L l = E1 l := fun L l hl => setE_old (by omega)
  have hwts : WFs E1 (H.length + 1) ts := WFs.ext x1.env (by omega) _ hts
  obtain ⟨r2, x2⟩ := r1.push (.loop { state := .ready, pending := none, fn, tmps := (embs E ts).toArray, params := ps, assign := as, body := bd, defers := w.heap.size })
    (.loop .ready none ts ps as bd H.length) ⟨(w.alloc (.deferred (some []))).heap.size, 0, 0, 0, true⟩ (fun _ => rfl) (by
    refine ⟨rfl, by omega, ?_, fn, ?_⟩
    · exact WFs.ext (hold _) (by omega) _ hwts
    · rw [embs_ext (hold _) _ hwts, hts1, hold _ H.length (by omega), hE1n]
      exact heap_new _ _)
  have e1 : H ++ [Ob.dfr] ++ [Ob.loop .ready none ts ps as bd H.length] = H ++ [.dfr, .loop .ready none ts ps as bd H.length] := by simp
  rw [e1] at r2
  have x3 := x1.trans x2
  rw [e1] at x3
  refine ⟨_, _, ?_, r2, x3⟩
  have h1 := hold ⟨(w.alloc (.deferred (some []))).heap.size, 0, 0, 0, true⟩ H.length (by omega)
  rw [h1, hE1n, ← hN, setE_new]
  simp only [Instr.enterLoop, Sem.run_bind, run_newObj', Result.andThen_ok, Sem.run_pure]

theorem enter_inner (hr : Rep E H w) (fn : FuncId) {ts : List V} (ps : Array Tmp) (as bd : Code) (hts : WFs E H.length ts) {l0 : Nat} {st : LoopState} {pd : Option Code} {ts0 : List V} {ps0 : Array Tmp} {as0 bd0 : Code} {d0 : Nat}
    (hl : H[l0]? = some (.loop st pd ts0 ps0 as0 bd0 d0)) :
    ∃ E' w', (Instr.enterLoop fn (embs E ts).toArray ps as bd (some (E l0).block)).run P w = .ok ((E' H.length).block, []) w' ∧
      Rep E' (H ++ [.loop .ready none ts ps as bd d0]) w' ∧ Ext E H w E' (H ++ [.loop .ready none ts ps as bd d0]) w' := by
  obtain ⟨_, h1, h2, fn0, h3⟩ := hr.ob l0 _ hl
  have hold : ∀ L l, l < H.length → setE E H.length L l = E l := fun L l hl => setE_old hl
  obtain ⟨r2, x2⟩ := hr.push (.loop { state := .ready, pending := none, fn, tmps := (embs E ts).toArray, params := ps, assign := as, body := bd, defers := (E d0).block })
    (.loop .ready none ts ps as bd d0) ⟨w.heap.size, 0, 0, 0, true⟩ (fun _ => rfl) (by
    refine ⟨rfl, by omega, WFs.ext (hold _) (by omega) _ hts, fn, ?_⟩
    rw [embs_ext (hold _) _ hts, hold _ d0 h1]
    exact heap_new _ _)
  refine ⟨_, _, ?_, r2, x2⟩
  rw [setE_new]
  simp only [Instr.enterLoop, Sem.run_bind, run_getLoop h3, run_newObj', Result.andThen_ok, Sem.run_pure]

/-- What a function hands back. -/
def resStep (tmps : Array Value) : ResultVar → Sem Value
  | .tmp t => pure (tmps.getD t undef)
  | .cell x t => do loadVar t (← asAddr (tmps.getD x undef))

theorem res_list (hr : Rep E H w) {a : LAct} (ha : ActOk E H.length a) : ∀ {rs : List ResultVar} {c : Cond} {vs : List V}, resV P H a rs = some (c, vs) → c.holds →
    (rs.mapM (resStep (a.conc E).tmps)).run P w = .ok (embs E vs) w ∧ WFs E H.length vs
  | [], c, vs, h, _ => by
    simp [resV] at h
    obtain ⟨_, rfl⟩ := h
    simp [embs, WFs]
  | .tmp t :: rs, c, vs, h, hc => by
    simp only [resV] at h
    split at h <;> try (simp at h; done)
    rename_i v hv
    split at h <;> try (simp at h; done)
    rename_i c' vs' h'
    simp at h
    obtain ⟨rfl, rfl⟩ := h
    obtain ⟨i1, i2⟩ := res_list hr ha h' hc
    have ht : (a.conc E).tmps.getD t undef = emb E v := by simp [LAct.conc, embs_eq, Array.getD_eq_getD_getElem?, hv]
    refine ⟨?_, (WFs_iff.1 ha.1) v (List.mem_of_getElem? hv), i2⟩
    simp only [List.mapM_cons, Sem.run_bind, resStep, Sem.run_pure, Result.andThen_ok, i1, ht, embs]
  | .cell t ty :: rs, c, vs, h, hc => by
    simp only [resV] at h
    split at h <;> try (simp at h; done)
    rename_i p hp
    split at h <;> try (simp at h; done)
    rename_i c1 v h1
    split at h <;> try (simp at h; done)
    rename_i c' vs' h'
    simp at h
    obtain ⟨rfl, rfl⟩ := h
    obtain ⟨c2, c3⟩ := Cond.and_holds hc
    obtain ⟨i1, i2⟩ := res_list hr ha h' c3
    obtain ⟨l1, l2⟩ := loadV_sound hr h1 c2
    have ht : (a.conc E).tmps.getD t undef = emb E p := by simp [LAct.conc, embs_eq, Array.getD_eq_getD_getElem?, hp]
    refine ⟨?_, l2, i2⟩
    have hlp : ∃ x y z, p = .ptr x y z := by
      unfold loadV at h1
      split at h1
      · exact ⟨_, _, _, rfl⟩
      · simp at h1
    obtain ⟨x, y, z, rfl⟩ := hlp
    simp only [Instr.loadAt, Instr.sureAddr, emb, Sem.run_bind, Sem.run_pure, Result.andThen_ok] at l1
    simp only [List.mapM_cons, Sem.run_bind, resStep, ht, emb, asAddr, Sem.run_pure, Result.andThen_ok, l1, i1, embs]

theorem results_eq (fn : Func) (tmps : Array Value) : results fn tmps = (do
    let vs ← fn.results.mapM (resStep tmps)
    pure (if h : vs.size = 1 then vs[0] else .tuple vs)) := by
  unfold results
  rfl

theorem res_sound (hr : Rep E H w) {a : LAct} (ha : ActOk E H.length a) {fn : Func} {c : Cond} {vs : List V} (h : resV P H a fn.results.toList = some (c, vs)) (hc : c.holds) :
    (results fn (a.conc E).tmps).run P w = .ok (emb E (oneRes vs)) w ∧ WF E H.length (oneRes vs) := by
  obtain ⟨h1, h2⟩ := res_list hr ha h hc
  have hw : WF E H.length (oneRes vs) := by
    unfold oneRes
    split
    · exact h2.1
    · simpa only [WF] using h2
  refine ⟨?_, hw⟩
  rw [results_eq, Array.mapM_eq_mapM_toList]
  simp only [Sem.run_bind, map_eq_pure_bind, h1, Result.andThen_ok, Sem.run_pure]
  match vs with
  | [] => simp [embs, oneRes, emb]
  | [v] => simp [embs, oneRes]
  | v :: u :: r => simp [embs, oneRes, emb]
end
end Go.Proofs.YtonohiifmepjfaaDoor.Ev
