/-
  Own framework, part 7: operations that make memory, maps, append.
-/
import Derived.Test.YtonohiifmepjfaaDoorEv6
namespace Go.Proofs.YtonohiifmepjfaaDoor.Ev
open Go Go.RowKit

section
variable {P : Program} {E : Env} {H : List Ob} {w : World}

/-- What an operation that acts comes to. -/
def EffOk (P : Program) (E : Env) (H : List Ob) (w : World) (s : Sem Next) (k : V → List Ob → Prop) : Prop :=
  ∃ v H' E' w', k v H' ∧ Rep E' H' w' ∧ WF E' H'.length v ∧ Ext E H w E' H' w' ∧ (s.run P w = .ok (.value (emb E' v)) w' ∨ (v = .tup [] ∧ s.run P w = .ok .skip w'))

theorem embs_get {vs : List V} {j : Nat} {v : V} (h : vs[j]? = some v) : (embs E vs).toArray[j]? = some (emb E v) := by
  simp [embs_eq, h]

theorem all_one {vs : List V} (h : vs.all V.one = true) : ∀ v ∈ vs, v.one = true := by simpa [List.all_eq_true] using h

/-- A variable with told cells. -/
theorem push_cells (hr : Rep E H w) (el : TypeId) (vs : List V) (h1 : vs.all V.one = true) (hw : WFs E H.length vs) :
    Rep (setE E H.length ⟨w.heap.size, 0, 0, 0, true⟩) (H ++ [.mem true el vs 0 []]) (w.alloc (.cells (embs E vs).toArray el)) ∧
    Ext E H w (setE E H.length ⟨w.heap.size, 0, 0, 0, true⟩) (H ++ [.mem true el vs 0 []]) (w.alloc (.cells (embs E vs).toArray el)) := by
  refine hr.push _ _ _ (fun _ => rfl) (mem_new rfl (fun j v hj => ?_) (fun i hi => by omega) (Nat.le_refl _) (by simp [embs_eq]) rfl)
  have hm := List.mem_of_getElem? hj
  have hv := WFs_iff.1 hw v hm
  refine ⟨?_, all_one h1 v hm, WF.ext (fun l hl => setE_old hl) (by omega) v hv⟩
  rw [emb_ext (fun l hl => setE_old hl) v hv]
  simp [embs_eq, hj]

theorem new_ptr {N : Nat} {b : Nat} {s c : Nat} : emb (setE E N ⟨b, 0, s, c, true⟩) (.ptr N 0 0) = .pointer (some ⟨b, 0, none⟩) := by
  simp [emb, setE, Loc.at]

/-! ### alloc, box -/
def rowsL (n : Nat) (cols : List Col) : List V := (List.range n).flatMap fun i => cols.map (·.at i)

/-- A type's zero value, told as an object's cells. -/
def ZeroIs (P : Program) (t : TypeId) (pre : List V) (n : Nat) (cols : List Col) : Prop :=
  ∃ i z, P.info? t = some i ∧ i.zero = some z ∧ ∀ E N, WFs E N (pre ++ rowsL n cols) ∧ (pre ++ rowsL n cols).all V.one = true ∧ z.cells.toList = embs E (pre ++ rowsL n cols)

theorem rows_length {n : Nat} {cols : List Col} : (rowsL n cols).length = n * cols.length := by
  unfold rowsL
  induction n with
  | zero => simp
  | succ n ih => rw [List.range_succ, List.flatMap_append, List.length_append, ih]; simp [Nat.add_mul]

theorem rows_succ {n : Nat} {cols : List Col} : rowsL (n + 1) cols = rowsL n cols ++ cols.map (·.at n) := by
  unfold rowsL
  rw [List.range_succ, List.flatMap_append]
  simp

theorem rows_get {n : Nat} {cols : List Col} {i j : Nat} {c : Col} (hi : i < n) (hj : cols[j]? = some c) : (rowsL n cols)[i * cols.length + j]? = some (c.at i) := by
  have hjl : j < cols.length := (List.getElem?_eq_some_iff.1 hj).1
  induction n with
  | zero => omega
  | succ n ih =>
    rw [rows_succ]
    by_cases h : i < n
    · have hlt : i * cols.length + j < (rowsL n cols).length := by
        rw [rows_length]
        have : (i + 1) * cols.length ≤ n * cols.length := Nat.mul_le_mul_right _ h
        rw [Nat.add_mul] at this; omega
      rw [List.getElem?_append_left hlt]
      exact ih h
    · obtain rfl : i = n := by omega
      rw [List.getElem?_append_right (by rw [rows_length]; omega), rows_length]
      simp [hj]

theorem push_rows (hr : Rep E H w) (el ty : TypeId) (arr : Array Value) (pre : List V) (n cap : Nat) (cols : List Col) (hty : el = ty)
    (h1 : (pre ++ rowsL n cols).all V.one = true) (hw : WFs E H.length (pre ++ rowsL n cols)) (hn : n ≤ cap) (hsz : pre.length + cap * cols.length ≤ arr.size)
    (harr : ∀ (j : Nat) (v : V), (pre ++ rowsL n cols)[j]? = some v → arr[j]? = some (emb E v)) :
    Rep (setE E H.length ⟨w.heap.size, 0, cols.length, cap, true⟩) (H ++ [.mem true ty pre n cols]) (w.alloc (.cells arr el)) ∧
    Ext E H w (setE E H.length ⟨w.heap.size, 0, cols.length, cap, true⟩) (H ++ [.mem true ty pre n cols]) (w.alloc (.cells arr el)) := by
  have key : ∀ (j : Nat) (v : V), (pre ++ rowsL n cols)[j]? = some v → arr[j]? = some (emb (setE E H.length ⟨w.heap.size, 0, cols.length, cap, true⟩) v) ∧ v.one = true ∧ WF (setE E H.length ⟨w.heap.size, 0, cols.length, cap, true⟩) (H.length + 1) v := by
    intro j v hj
    have hm := List.mem_of_getElem? hj
    have hv := WFs_iff.1 hw v hm
    exact ⟨by rw [emb_ext (fun l hl => setE_old hl) v hv]; exact harr j v hj, all_one h1 v hm, WF.ext (fun l hl => setE_old hl) (by omega) v hv⟩
  refine hr.push _ _ _ (fun _ => rfl) (mem_new rfl (fun j v hj => key j v ?_) (fun i hi j c hj => key _ _ ?_) hn hsz hty)
  · rw [List.getElem?_append_left (List.getElem?_eq_some_iff.1 hj).1]; exact hj
  · rw [List.getElem?_append_right (by omega), show pre.length + i * cols.length + j - pre.length = i * cols.length + j by omega]
    exact rows_get hi hj

def allocK (P : Program) (t : TypeId) (H : List Ob) (k : V → List Ob → Prop) : Prop :=
  match isAggO P t with
  | some false => match zeroV P t with
    | some z => match z.one with
      | true => k (.ptr H.length 0 0) (H ++ [.mem true t [z] 0 []])
      | false => False
    | none => False
  | some true => match P.underlying t with
    | some (.struct _) => match szOf P t with
      | some s => match Nat.ble s 40 with
        | true => match zeroV P t with
          | some z => match z.parts.all V.one with
            | true => k (.ptr H.length 0 0) (H ++ [.mem true t z.parts 0 []])
            | false => False
          | none => False
        | false => ∃ pre n cols, ZeroIs P t pre n cols ∧ k (.ptr H.length 0 0) (H ++ [.mem true t pre n cols])
      | none => False
    | _ => ∃ pre n cols, ZeroIs P t pre n cols ∧ k (.ptr H.length 0 0) (H ++ [.mem true t pre n cols])
  | none => False

theorem alloc_zeroIs {t : TypeId} {pre : List V} {n : Nat} {cols : List Col} {k : V → List Ob → Prop} (hr : Rep E H w) (hz : ZeroIs P t pre n cols) (h : k (.ptr H.length 0 0) (H ++ [.mem true t pre n cols])) :
    EffOk P E H w (do pure (.value (← Instr.alloc t true (.tuple #[])))) k := by
  obtain ⟨i, z, hi, hzz, hall⟩ := hz
  obtain ⟨z1, z2, z3⟩ := hall E H.length
  have harr : z.cells = (embs E (pre ++ rowsL n cols)).toArray := by apply Array.ext'; simp [z3]
  obtain ⟨r1, r2⟩ := push_rows (cap := n) hr t t z.cells pre n cols rfl z2 z1 (Nat.le_refl _) (by rw [harr]; simp [embs_eq, rows_length]) (fun j v hj => by rw [harr]; exact embs_get hj)
  refine ⟨_, _, _, _, h, r1, by simp [WF], r2, .inl ?_⟩
  rw [new_ptr]
  simp [Instr.alloc, zeroValue, typeInfo, hi, hzz, newVar, newRow]

theorem alloc_told {t : TypeId} {z : V} {k : V → List Ob → Prop} (hr : Rep E H w) (hz : zeroV P t = some z) (h1 : z.parts.all V.one = true) (h : k (.ptr H.length 0 0) (H ++ [.mem true t z.parts 0 []])) :
    EffOk P E H w (do pure (.value (← Instr.alloc t true (.tuple #[])))) k := by
  obtain ⟨z1, z2⟩ := run_zeroValue' (P := P) (E := E) (w := w) (N := H.length) hz
  obtain ⟨r1, r2⟩ := push_cells hr t z.parts h1 (parts_wf z2)
  refine ⟨_, _, _, _, h, r1, by simp [WF], r2, .inl ?_⟩
  rw [new_ptr]
  simp [Instr.alloc, z1, newVar, newRow, emb_parts]

theorem alloc_sound {t : TypeId} {k : V → List Ob → Prop} (hr : Rep E H w) (h : allocK P t H k) : EffOk P E H w (do pure (.value (← Instr.alloc t true (.tuple #[])))) k := by
  unfold allocK at h
  split at h
  · split at h
    · rename_i z hz
      split at h
      · rename_i h1
        have hp : z.parts = [z] := by cases z <;> simp_all [V.parts, V.one]
        exact alloc_told hr hz (by rw [hp]; simp [h1]) (by rw [hp]; exact h)
      · exact h.elim
    · exact h.elim
  · split at h
    · split at h
      · split at h
        · split at h
          · rename_i z hz
            split at h
            · rename_i h1
              exact alloc_told hr hz h1 h
            · exact h.elim
          · exact h.elim
        · obtain ⟨pre, n, cols, hz, h⟩ := h
          exact alloc_zeroIs hr hz h
      · exact h.elim
    · obtain ⟨pre, n, cols, hz, h⟩ := h
      exact alloc_zeroIs hr hz h
  · exact h.elim

def boxK (t : TypeId) (x : V) (H : List Ob) (k : V → List Ob → Prop) : Prop :=
  match x.parts.all V.one with
  | true => k (.ptr H.length 0 0) (H ++ [.mem true t x.parts 0 []])
  | false => False

theorem box_sound {t : TypeId} {x : V} {k : V → List Ob → Prop} (hr : Rep E H w) (hx : WF E H.length x) (h : boxK t x H k) : EffOk P E H w (do pure (.value (← Instr.box t (emb E x)))) k := by
  unfold boxK at h
  split at h
  · rename_i h1
    obtain ⟨r1, r2⟩ := push_cells hr t x.parts h1 (parts_wf hx)
    refine ⟨_, _, _, _, h, r1, by simp [WF], r2, .inl ?_⟩
    rw [new_ptr]
    simp [Instr.box, newVar, newRow, emb_parts]
  · exact h.elim

/-! ### Columns out of values -/
def colZero : V → Col
  | .int k _ => .int k fun _ => 0
  | .bool _ => .bool fun _ => false
  | .str _ => .str fun _ => ByteArray.empty
  | v => .val fun _ => v

def colsZero (P : Program) (t : TypeId) : Option (List Col) :=
  match zeroV P t with
  | some z => some (z.parts.map colZero)
  | none => none

/-! ### Maps -/
def kindsOf : List V → Option (List IntKind)
  | [] => some []
  | .int k _ :: vs => match kindsOf vs with
    | some ks => some (k :: ks)
    | none => none
  | _ => none

def kvals : List IntKind → Nat → (Nat → Int) → List V
  | [], _, _ => []
  | k :: ks, j, g => .int k (g j) :: kvals ks (j + 1) g

theorem kvals_emb : ∀ {ks : List IntKind} {j : Nat} {g : Nat → Int}, embs E (kvals ks j g) = kcells ks j g ∧ WFs E H.length (kvals ks j g)
  | [], _, _ => by simp [kvals, kcells, embs, WFs]
  | k :: ks, j, g => by
    obtain ⟨a, b⟩ := kvals_emb (ks := ks) (j := j + 1) (g := g)
    simp [kvals, kcells, embs, WFs, emb, a, b, WF]

def makeMapK (P : Program) (t : TypeId) (H : List Ob) (k : V → List Ob → Prop) : Prop :=
  match P.underlying t with
  | some (.map kt el) => match P.underlying kt with
    | some (.int .i64) => match zeroV P el with
      | some (.agg zs) => match kindsOf zs with
        | some ks => k (.map H.length) (H ++ [.mp ks fun _ => none])
        | none => False
      | _ => False
    | _ => False
  | _ => False

theorem makeMap_sound {t : TypeId} {k : V → List Ob → Prop} (hr : Rep E H w) (h : makeMapK P t H k) : EffOk P E H w (do pure (.value (← Instr.makeMap t none))) k := by
  unfold makeMapK at h
  split at h
  · split at h
    · split at h
      · split at h
        · rename_i ks hks
          obtain ⟨r1, r2⟩ := hr.push (.map #[] 0) (.mp ks fun _ => none) ⟨w.heap.size, 0, 0, 0, true⟩ (fun _ => rfl) ⟨rfl, #[], 0, heap_alloc_new w _, by simp, by simp [mget]⟩
          refine ⟨_, _, _, _, h, r1, by simp [WF], r2, .inl ?_⟩
          simp [Instr.makeMap, emb, setE]
        · exact h.elim
      · exact h.elim
    · exact h.elim
  · exact h.elim

theorem findNow_get {kk : IntKind} {n : Int} : ∀ {es : List MapEntry} {i : Nat}, (∀ e ∈ es, ∃ m, e.key = .int .i64 m) →
    ∃ r, Instr.findNow (.int kk) (.int .i64 n) es i = some r ∧ r.map (·.2) = mget n es ∧
      (∀ j v, r = some (j, v) → i ≤ j ∧ ∃ e, es[j - i]? = some e ∧ e.key = .int .i64 n ∧ e.val = v ∧ ∀ j' e', j' < j - i → es[j']? = some e' → e'.key ≠ .int .i64 n)
  | [], i, _ => ⟨none, rfl, rfl, fun j v h => by simp at h⟩
  | e :: es, i, h => by
    obtain ⟨m, hm⟩ := h e (List.mem_cons_self ..)
    simp only [Instr.findNow, Instr.sameNow, hm, if_true, mget]
    by_cases hnm : n = m
    · subst hnm
      simp only [beq_self_eq_true, if_true]
      exact ⟨_, rfl, rfl, fun j v h => by simp at h; obtain ⟨rfl, rfl⟩ := h; exact ⟨Nat.le_refl _, e, by simp, hm, rfl, fun j' e' hj' => by omega⟩⟩
    · have : (n == m) = false := by simp [hnm]
      simp only [this, Bool.false_eq_true, if_false]
      obtain ⟨r, h1, h2, h3⟩ := findNow_get (n := n) (kk := kk) (es := es) (i := i + 1) (fun x hx => h x (List.mem_cons_of_mem _ hx))
      refine ⟨r, h1, h2, fun j v hj => ?_⟩
      obtain ⟨a1, x, a2, a3, a4, a5⟩ := h3 j v hj
      refine ⟨by omega, x, ?_, a3, a4, fun j' e' hj' he' => ?_⟩
      · rw [show j - i = (j - (i + 1)) + 1 by omega]; simpa using a2
      · cases j' with
        | zero => simp at he'; subst he'; rw [hm]; simp; exact fun h => hnm h.symm
        | succ j' => exact a5 j' e' (by omega) (by simpa using he')

theorem checkKey_succ {d : Nat} {kt : TypeId} {kk : IntKind} {n : Int} {b : Bool} (h : P.underlying kt = some (.int kk)) : (Instr.checkKey b (d + 1) kt (.int .i64 n)).run P w = .ok () w := by
  simp [Instr.checkKey, run_underlying h]

theorem checkKey_int {kt : TypeId} {kk : IntKind} {n : Int} {b : Bool} (h : P.underlying kt = some (.int kk)) : (Instr.checkKey b 10000 kt (.int .i64 n)).run P w = .ok () w :=
  checkKey_succ (d := 9999) h

/-- m[n], n a number, the values structs of numbers. -/
def lookupK (P : Program) (t : TypeId) (m i : V) (ok : Bool) (H : List Ob) (k : V → List Ob → Prop) : Prop :=
  match P.underlying t with
  | some (.map kt el) => match P.underlying kt with
    | some (.int .i64) => match zeroV P el with
      | some z => match i with
        | .int .i64 n => match m with
          | .map l => match H[l]? with
            | some (.mp ks f) =>
              (∀ g, f n = some g → k (match ok with
                | true => .tup [.agg (kvals ks 0 g), .bool true]
                | false => .agg (kvals ks 0 g)) H) ∧
              (f n = none → k (match ok with
                | true => .tup [z, .bool false]
                | false => z) H)
            | _ => False
          | _ => False
        | _ => False
      | none => False
    | _ => False
  | _ => False

theorem lookup_sound {t : TypeId} {m i : V} {ok : Bool} {k : V → List Ob → Prop} (hr : Rep E H w) (h : lookupK P t m i ok H k) :
    EffOk P E H w (do pure (.value (← Instr.lookup t (emb E m) (emb E i) ok))) k := by
  unfold lookupK at h
  split at h <;> try exact h.elim
  rename_i kt el hu
  split at h <;> try exact h.elim
  rename_i hk
  split at h <;> try exact h.elim
  rename_i z hz
  split at h <;> try exact h.elim
  rename_i n
  split at h <;> try exact h.elim
  rename_i l
  split at h <;> try exact h.elim
  rename_i ks f hl
  obtain ⟨h1, h2⟩ := h
  obtain ⟨_, es, clock, hb, he1, he2⟩ := hr.ob l _ hl
  obtain ⟨r, f1, f2, _⟩ := findNow_get (kk := .i64) (n := n) (es := es.toList) (i := 0) he1
  obtain ⟨z1, z2⟩ := run_zeroValue' (P := P) (E := E) (w := w) (N := H.length) hz
  have hget : (getObj (E l).block).run P w = .ok (.map es clock) w := by simp [getObj, Sem.run, hb]
  have hlen : l < H.length := (List.getElem?_eq_some_iff.1 hl).1
  cases hfn : f n with
  | none =>
    have : r = none := by
      have := he2 n
      rw [hfn] at this
      rw [this] at f2
      cases r <;> simp_all
    subst this
    refine ⟨_, H, E, w, h2 hfn, hr, ?_, Ext.refl E H w, .inl ?_⟩
    · cases ok <;> simp [WF, WFs, z2]
    · simp only [Instr.lookup, Sem.run_bind, run_underlying hu, Result.andThen_ok, emb, hget, Sem.run_pure, checkKey_int hk, Instr.findKey, run_underlying hk, f1, z1]
      cases ok <;> simp [emb, embs]
  | some g =>
    have : ∃ j, r = some (j, .agg (kcells ks 0 g).toArray) := by
      have := he2 n
      rw [hfn] at this
      rw [this] at f2
      cases r with
      | none => simp at f2
      | some x => obtain ⟨a, b⟩ := x; simp at f2; exact ⟨a, by rw [f2]⟩
    obtain ⟨j, rfl⟩ := this
    obtain ⟨k1, k2⟩ := kvals_emb (E := E) (H := H) (ks := ks) (j := 0) (g := g)
    refine ⟨_, H, E, w, h1 g hfn, hr, ?_, Ext.refl E H w, .inl ?_⟩
    · cases ok <;> simp [WF, WFs, k2]
    · simp only [Instr.lookup, Sem.run_bind, run_underlying hu, Result.andThen_ok, emb, hget, Sem.run_pure, checkKey_int hk, Instr.findKey, run_underlying hk, f1]
      cases ok <;> simp [emb, embs, k1]
end
end Go.Proofs.YtonohiifmepjfaaDoor.Ev
