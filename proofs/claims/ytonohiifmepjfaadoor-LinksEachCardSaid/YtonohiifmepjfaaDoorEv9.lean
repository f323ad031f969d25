/-
  Own framework, part 9: slices made, append, clear, bytes as a string.
-/
import Derived.Test.YtonohiifmepjfaaDoorEv8
import Derived.Laws.MakeOwn
import Derived.Laws.CopyRow
import Derived.Laws.BytesArg
namespace Go.Proofs.YtonohiifmepjfaaDoor.Ev
open Go Go.RowKit

section
variable {P : Program} {E : Env} {H : List Ob} {w : World}

def bytesOf (P : Program) (t : TypeId) : Option Nat :=
  match P.info? t with
  | some i => some i.bytes
  | none => none

def colOf : V → Col
  | .int k n => .int k fun _ => n
  | .bool b => .bool fun _ => b
  | .str s => .str fun _ => s
  | v => .val fun _ => v

theorem colOf_at {v : V} {i : Nat} : (colOf v).at i = v := by cases v <;> rfl

/-- make([]T, n, c) -/
def makeSliceK (P : Program) (t : TypeId) (n c : V) (H : List Ob) (k : V → List Ob → Prop) : Prop :=
  match P.underlying t with
  | some (.slice el) => match bytesOf P el with
    | some b => match szOf P el with
      | some s => match zeroV P el with
        | some z => match decide (z.parts.length = s ∧ z.parts.all V.one = true ∧ 0 < s) with
          | true => match n with
            | .int _ n => match c with
              | .int _ c => 0 ≤ n ∧ n ≤ c ∧ (b : Int) * c ≤ 281474976710656 ∧ c ≤ 9223372036854775807 ∧
                ∀ a : Addr, k (.slc a c.toNat H.length 0 n.toNat) (H ++ [.mem true el [] n.toNat (z.parts.map colOf)])
              | _ => False
            | _ => False
          | false => False
        | none => False
      | none => False
    | none => False
  | _ => False

theorem bytesOf_info {t : TypeId} {b s : Nat} {z : V} (hb : bytesOf P t = some b) (hs : szOf P t = some s) (hz : zeroV P t = some z) :
    ∃ i, P.info? t = some i ∧ i.bytes = b ∧ i.size = s ∧ ∀ E : Env, i.zero = some (emb E z) := by
  unfold bytesOf at hb
  unfold szOf at hs
  unfold zeroV at hz
  cases hi : P.info? t with
  | none => simp [hi] at hb
  | some i =>
    simp only [hi, Option.some.injEq] at hb hs hz
    refine ⟨i, rfl, hb, hs, fun E => ?_⟩
    split at hz
    · rename_i v hv
      rw [hv, (cv_emb (E := E) (N := 0) hz).1]
    · simp at hz

theorem madeCells_get {z : V} {s n p : Nat} (hs : z.parts.length = s) (hp : p < n) (h0 : 0 < s) : ∃ v, z.parts[p % s]? = some v ∧ (madeCells (emb E z).cells n)[p]? = some (emb E v) := by
  have hlt : p % s < z.parts.length := by rw [hs]; exact Nat.mod_lt _ h0
  refine ⟨z.parts[p % s], List.getElem?_eq_getElem hlt, ?_⟩
  have hsz : (emb E z).cells.size = s := by rw [emb_parts]; simp [embs_eq, hs]
  have hlt2 : p % s < (emb E z).cells.size := by rw [hsz]; exact Nat.mod_lt _ h0
  unfold madeCells
  rw [hsz]
  simp only [Array.getElem?_map, Array.getElem?_range, hp, if_true, Option.map_some]
  rw [getElem!_pos (emb E z).cells (p % s) hlt2]
  congr 1
  have : (emb E z).cells[p % s]? = some (emb E z.parts[p % s]) := by
    rw [emb_parts]; exact embs_get (List.getElem?_eq_getElem hlt)
  rw [Array.getElem?_eq_getElem hlt2] at this
  simpa using this

theorem makeSlice_sound {t : TypeId} {n c : V} {k : V → List Ob → Prop} (hr : Rep E H w) (h : makeSliceK P t n c H k) : EffOk P E H w (do pure (.value (← Instr.makeSlice t (emb E n) (emb E c)))) k := by
  unfold makeSliceK at h
  split at h <;> try exact h.elim
  rename_i el hu
  split at h <;> try exact h.elim
  rename_i b hb
  split at h <;> try exact h.elim
  rename_i s hs
  split at h <;> try exact h.elim
  rename_i z hz
  split at h <;> try exact h.elim
  rename_i hd
  simp only [decide_eq_true_eq] at hd
  obtain ⟨hd1, hd2, hd3⟩ := hd
  split at h <;> try exact h.elim
  rename_i kn n
  split at h <;> try exact h.elim
  rename_i kc c
  obtain ⟨h1, h2, h3, h4, h5⟩ := h
  obtain ⟨i, i1, i2, i3, i4⟩ := bytesOf_info hb hs hz
  have hrun := run_make (P := P) w t el i (emb E z) hu i1 (i4 E) kn kc n c h1 h2 (by rw [i2]; exact h3) h4
  have zw := parts_wf (run_zeroValue' (P := P) (E := E) (w := w) (N := H.length) hz).2
  have hcells : ∀ i, i < n.toNat → ∀ j col, (z.parts.map colOf)[j]? = some col → ∃ v, z.parts[j]? = some v ∧ col.at i = v ∧ (madeCells (emb E z).cells (c.toNat * s))[i * s + j]? = some (emb E v) := by
    intro i hi j col hj
    rw [List.getElem?_map] at hj
    cases hv : z.parts[j]? with
    | none => rw [hv] at hj; simp at hj
    | some v =>
      rw [hv] at hj
      simp at hj
      subst hj
      have hjs : j < s := by rw [← hd1]; exact (List.getElem?_eq_some_iff.1 hv).1
      have hlt : i * s + j < c.toNat * s := by
        have : (i + 1) * s ≤ c.toNat * s := Nat.mul_le_mul_right _ (by omega)
        rw [Nat.add_mul] at this; omega
      obtain ⟨v', e1, e2⟩ := madeCells_get (E := E) hd1 hlt hd3
      have hm : (i * s + j) % s = j := by rw [Nat.mul_comm, Nat.mul_add_mod]; exact Nat.mod_eq_of_lt hjs
      rw [hm, hv] at e1
      injection e1 with e1
      subst e1
      exact ⟨v, rfl, colOf_at, e2⟩
  obtain ⟨r1, r2⟩ := hr.push (.cells (madeCells (emb E z).cells (c.toNat * i.size)) el) (.mem true el [] n.toNat (z.parts.map colOf)) ⟨w.heap.size, 0, (z.parts.map colOf).length, c.toNat, true⟩ (fun _ => rfl)
    (mem_new rfl (fun j v hj => by simp at hj) (fun i' hi j col hj => by
      obtain ⟨v, e1, e2, e3⟩ := hcells i' hi j col hj
      have hm := List.mem_of_getElem? e1
      have hw := WFs_iff.1 zw v hm
      rw [e2, emb_ext (fun l hl => setE_old hl) v hw, i3]
      refine ⟨?_, all_one hd2 v hm, WF.ext (fun l hl => setE_old hl) (by omega) v hw⟩
      simp only [List.length_nil, Nat.zero_add, List.length_map, hd1]
      exact e3) (by simp only; omega) (by simp [size_madeCells, i3, hd1]) rfl)
  refine ⟨_, _, _, _, h5 ⟨w.heap.size, 0, none⟩, r1, ?_, r2, .inl ?_⟩
  · simp only [WF]
    refine ⟨by simp, by omega, by rw [setE_new]; simp, fun _ => by rw [setE_new]; simp [Loc.at]⟩
  · simp only [emb, Sem.run_bind, hrun, Result.andThen_ok, Sem.run_pure]

/-- []T{..}: all elements told, in order. -/
def inOrder : Nat → List (Nat × V) → Bool
  | _, [] => true
  | i, (j, _) :: ps => (i == j) && inOrder (i + 1) ps

def buildSliceK (P : Program) (t : TypeId) (len : Nat) (ps : List (Nat × V)) (H : List Ob) (k : V → List Ob → Prop) : Prop :=
  match P.underlying t with
  | some (.slice el) => match szOf P el with
    | some s => match zeroV P el with
      | some z => match decide (z.parts.length = s ∧ 0 < s ∧ len * s ≤ 16777216) with
        | true => match fillV (fun i => some (i * s, s)) ((List.range (len * s)).map fun i => z.parts.getD (i % s) (.tup [])) ps with
          | some cs => match cs.all V.one with
            | true => ∀ a : Addr, k (.slc a len H.length 0 len) (H ++ [.mem true el [] len ((List.range s).map fun j => .val fun i => cs.getD (i * s + j) (.tup []))])
            | false => False
          | none => False
        | false => False
      | none => False
    | none => False
  | _ => False

theorem fillV_length {place : Nat → Option (Nat × Nat)} : ∀ {ps : List (Nat × V)} {cells out : List V}, fillV place cells ps = some out → out.length = cells.length
  | [], cells, out, h => by simp [fillV] at h; subst h; rfl
  | (i, v) :: ps, cells, out, h => by
    simp only [fillV] at h
    split at h
    · split at h
      · rw [fillV_length h, splice_length]
      · simp at h
    · simp at h

theorem buildSlice_sound {t : TypeId} {len : Nat} {ps : List (Nat × V)} {k : V → List Ob → Prop} (hr : Rep E H w) (hp : ∀ p ∈ ps, WF E H.length p.2) (h : buildSliceK P t len ps H k) :
    EffOk P E H w (do pure (.value (← Instr.buildSlice t len (ps.map fun (i, v) => (i, emb E v)).toArray))) k := by
  unfold buildSliceK at h
  split at h <;> try exact h.elim
  rename_i el hu
  split at h <;> try exact h.elim
  rename_i s hs
  split at h <;> try exact h.elim
  rename_i z hz
  split at h <;> try exact h.elim
  rename_i hd
  simp only [decide_eq_true_eq] at hd
  obtain ⟨hd1, hd2, hd3⟩ := hd
  split at h <;> try exact h.elim
  rename_i cs hf
  split at h <;> try exact h.elim
  rename_i h1
  obtain ⟨z1, z2⟩ := run_zeroValue' (P := P) (E := E) (w := w) (N := H.length) hz
  have zw := parts_wf z2
  have hlen : cs.length = len * s := by rw [fillV_length hf]; simp
  have hw : WFs E H.length cs := fill_wf (E := E) hf (WFs_iff.2 fun v hv => by
    simp only [List.mem_map, List.mem_range] at hv
    obtain ⟨i, _, rfl⟩ := hv
    have hlt : i % s < z.parts.length := by rw [hd1]; exact Nat.mod_lt _ hd2
    rw [List.getD_eq_getElem?_getD, List.getElem?_eq_getElem hlt]
    exact WFs_iff.1 zw _ (List.getElem_mem hlt)) hp
  have hfill := fill_sound (E := E) hf
  have hsz : (emb E z).cells.size = s := by rw [emb_parts]; simp [embs_eq, hd1]
  have hz0 : (embs E ((List.range (len * s)).map fun i => z.parts.getD (i % s) (.tup []))).toArray = (Array.range (len * s)).map (fun x => (emb E z).cells[x % (emb E z).cells.size]!) := by
    apply Array.ext'
    simp only [embs_eq, List.map_map, Array.toList_map, Array.toList_range]
    apply List.map_congr_left
    intro i hi
    have hlt : i % s < z.parts.length := by rw [hd1]; exact Nat.mod_lt _ hd2
    have hlt2 : i % s < (emb E z).cells.size := by rw [hsz]; exact Nat.mod_lt _ hd2
    simp only [Function.comp, hsz]
    rw [getElem!_pos (emb E z).cells (i % s) hlt2, List.getD_eq_getElem?_getD, List.getElem?_eq_getElem hlt]
    have : (emb E z).cells[i % s]? = some (emb E z.parts[i % s]) := by
      rw [emb_parts]; exact embs_get (List.getElem?_eq_getElem hlt)
    rw [Array.getElem?_eq_getElem hlt2] at this
    simpa using this.symm
  obtain ⟨r1, r2⟩ := hr.push (.cells (embs E cs).toArray el) (.mem true el [] len ((List.range s).map fun j => .val fun i => cs.getD (i * s + j) (.tup []))) ⟨w.heap.size, 0, ((List.range s).map fun j => Col.val fun i => cs.getD (i * s + j) (.tup [])).length, len, true⟩ (fun _ => rfl)
    (mem_new rfl (fun j v hj => by simp at hj) (fun i hi j col hj => by
      rw [List.getElem?_map] at hj
      cases hjr : (List.range s)[j]? with
      | none => rw [hjr] at hj; simp at hj
      | some q =>
        rw [hjr] at hj
        simp only [Option.map_some, Option.some.injEq] at hj
        subst hj
        obtain ⟨hjs, rfl⟩ : j < s ∧ j = q := by
          have := List.getElem?_eq_some_iff.1 hjr
          obtain ⟨a, b⟩ := this
          simp at a b
          exact ⟨a, b⟩
        have hlt : i * s + j < cs.length := by
          rw [hlen]
          have : (i + 1) * s ≤ len * s := Nat.mul_le_mul_right _ hi
          rw [Nat.add_mul] at this; omega
        have hg : cs[i * s + j]? = some cs[i * s + j] := List.getElem?_eq_getElem hlt
        have hm := List.mem_of_getElem? hg
        have hwv := WFs_iff.1 hw _ hm
        have hcat : (Col.val fun i => cs.getD (i * s + j) (.tup [])).at i = cs[i * s + j] := by
          show cs.getD (i * s + j) (.tup []) = _
          rw [List.getD_eq_getElem?_getD, hg]; rfl
        rw [hcat, emb_ext (fun l hl => setE_old hl) _ hwv]
        refine ⟨?_, all_one h1 _ hm, WF.ext (fun l hl => setE_old hl) (by omega) _ hwv⟩
        simp only [List.length_nil, Nat.zero_add, List.length_map, List.length_range]
        exact embs_get hg) (Nat.le_refl _) (by simp [embs_eq, hlen]) rfl)
  refine ⟨_, _, _, _, h ⟨w.heap.size, 0, none⟩, r1, ?_, r2, .inl ?_⟩
  · simp only [WF]
    refine ⟨by simp, Nat.le_refl _, by rw [setE_new]; simp, fun _ => by rw [setE_new]; simp [Loc.at]⟩
  · simp only [Instr.buildSlice, Sem.run_bind, run_underlying hu, Result.andThen_ok, run_sizeOf' hs]
    rw [if_neg (by simpa using hd3)]
    simp only [Sem.run_pure, Result.andThen_ok]
    by_cases h0 : len * s = 0
    · have hl0 : len = 0 := by
        rcases Nat.mul_eq_zero.1 h0 with h | h
        · exact h
        · omega
      subst hl0
      have hcs : cs = [] := List.eq_nil_of_length_eq_zero (by simpa using hlen)
      subst hcs
      have hf' : Instr.fill (fun i => some (i * s, s)) #[] (ps.map fun (i, v) => (i, emb E v)) = some #[] := by
        simpa [embs] using hfill
      simp only [if_pos h0, Sem.run_pure, Result.andThen_ok]
      have hr0 : (Array.range (0 * s)).map (fun x => (#[] : Array Value)[x % (#[] : Array Value).size]!) = #[] := by
        simp
      simp only [hr0, hf', newRow, Sem.run_bind, run_newObj, Result.andThen_ok, Sem.run_pure, emb, embs]
      rfl
    · have hf' := hfill
      rw [hz0] at hf'
      simp only [if_neg h0, Sem.run_bind, z1, Result.andThen_ok, Sem.run_pure, hf', newRow, run_newObj, emb]
      rfl

/-! ### append -/
/-- A column of the slice that append yields: 'len' elements from 'st' on, then 'm' of another's from 'st2' on. -/
def appCol (st len st2 m : Nat) : Col → Col → Option Col
  | .int k f, .int k' g => match decide (k = k') with
    | true => some (.int k fun i => if i < len then f (st + i) else g (st2 + (i - len)))
    | false => none
  | .bool f, .bool g => some (.bool fun i => if i < len then f (st + i) else g (st2 + (i - len)))
  | .str f, .str g => some (.str fun i => if i < len then f (st + i) else g (st2 + (i - len)))
  | .val f, .val g => some (.val fun i => if i < len then f (st + i) else g (st2 + (i - len)))
  | c, .val g => match m with
    | 1 => match c with
      | .int k f => match g st2 with
        | .int k' x => match decide (k = k') with
          | true => some (.int k fun i => if i < len then f (st + i) else x)
          | false => none
        | _ => none
      | .bool f => match g st2 with
        | .bool x => some (.bool fun i => if i < len then f (st + i) else x)
        | _ => none
      | .str f => match g st2 with
        | .str x => some (.str fun i => if i < len then f (st + i) else x)
        | _ => none
      | _ => none
    | _ => none
  | _, _ => none

theorem appCol_at {st len st2 m : Nat} {c d r : Col} (h : appCol st len st2 m c d = some r) : (∀ i, i < len → r.at i = c.at (st + i)) ∧ (∀ i, i < m → r.at (len + i) = d.at (st2 + i)) := by
  unfold appCol at h
  split at h
  · split at h <;> simp at h
    rename_i hk; simp only [decide_eq_true_eq] at hk; subst h; subst hk
    exact ⟨fun i hi => by simp [Col.at, hi], fun i hi => by simp [Col.at, show ¬ len + i < len by omega]⟩
  · simp at h; subst h; exact ⟨fun i hi => by simp [Col.at, hi], fun i hi => by simp [Col.at, show ¬ len + i < len by omega]⟩
  · simp at h; subst h; exact ⟨fun i hi => by simp [Col.at, hi], fun i hi => by simp [Col.at, show ¬ len + i < len by omega]⟩
  · simp at h; subst h; exact ⟨fun i hi => by simp [Col.at, hi], fun i hi => by simp [Col.at, show ¬ len + i < len by omega]⟩
  · split at h
    · split at h
      · split at h <;> try (simp at h; done)
        rename_i hg
        split at h <;> simp at h
        rename_i hk; simp only [decide_eq_true_eq] at hk; subst h; subst hk
        exact ⟨fun i hi => by simp [Col.at, hi], fun i hi => by obtain rfl : i = 0 := by omega
                                                                simp [Col.at, hg]⟩
      · split at h <;> simp at h
        rename_i hg
        subst h
        exact ⟨fun i hi => by simp [Col.at, hi], fun i hi => by obtain rfl : i = 0 := by omega
                                                                simp [Col.at, hg]⟩
      · split at h <;> simp at h
        rename_i hg
        subst h
        exact ⟨fun i hi => by simp [Col.at, hi], fun i hi => by obtain rfl : i = 0 := by omega
                                                                simp [Col.at, hg]⟩
      · simp at h
    · simp at h
  · simp at h

def appCols (st len st2 m : Nat) : List Col → List Col → Option (List Col)
  | [], [] => some []
  | c :: cs, d :: ds => match appCol st len st2 m c d with
    | some r => match appCols st len st2 m cs ds with
      | some rs => some (r :: rs)
      | none => none
    | none => none
  | _, _ => none

theorem appCols_at {st len st2 m : Nat} : ∀ {cs ds rs : List Col}, appCols st len st2 m cs ds = some rs → rs.length = cs.length ∧ ds.length = cs.length ∧
    ∀ (j : Nat) (r : Col), rs[j]? = some r → ∃ c d : Col, cs[j]? = some c ∧ ds[j]? = some d ∧ (∀ i, i < len → r.at i = c.at (st + i)) ∧ (∀ i, i < m → r.at (len + i) = d.at (st2 + i))
  | [], [], rs, h => by simp [appCols] at h; subst h; simp
  | [], d :: ds, rs, h => by simp [appCols] at h
  | c :: cs, [], rs, h => by simp [appCols] at h
  | c :: cs, d :: ds, rs, h => by
    simp only [appCols] at h
    split at h
    · rename_i r hr
      split at h
      · rename_i rs' hrs
        simp at h; subst h
        obtain ⟨a1, a2, a3⟩ := appCols_at hrs
        refine ⟨by simp [a1], by simp [a2], fun j r' hj => ?_⟩
        cases j with
        | zero => simp at hj; subst hj; exact ⟨c, d, by simp, by simp, appCol_at hr⟩
        | succ j =>
          obtain ⟨x, y, b1, b2, b3⟩ := a3 j r' (by simpa using hj)
          exact ⟨x, y, by simpa using b1, by simpa using b2, b3⟩
      · simp at h
    · simp at h

/-- A slice's object, its columns and where it lies; nil has the columns of zeros. -/
def srcOf (P : Program) (el : TypeId) (H : List Ob) : V → Option (Option Nat × List Col × Nat × Nat × Nat)
  | .nils => match colsZero P el with
    | some cs => some (none, cs, 0, 0, 0)
    | none => none
  | .slc _ _ l st len => match H[l]? with
    | some (.mem _ _ [] n cols) => some (some l, cols, st, len, n)
    | _ => none
  | _ => none

def ownAt (H : List Ob) (el : TypeId) : Option Nat → Bool
  | none => true
  | some l => match H[l]? with
    | some (.mem true ty [] _ _) => Nat.beq ty el
    | _ => false

def appendK (P : Program) (t : TypeId) (s x : V) (H : List Ob) (k : V → List Ob → Prop) : Prop :=
  match P.underlying t with
  | some (.slice el) => match bytesOf P el with
    | some b => match szOf P el with
      | some sz => match zeroV P el with
        | some z => match srcOf P el H s with
          | some (lab, cols, st, len, n) => match ownAt H el lab with
            | true => match x with
              | .nils => k s H
              | _ => match srcOf P el H x with
                | some (_, cols2, st2, m, n2) => match appCols st len st2 m cols cols2 with
                  | some rs => match decide (rs.length = sz ∧ z.parts.length = sz ∧ z.parts.all V.one = true ∧ 0 < sz) with
                    | true => st + len ≤ n ∧ st2 + m ≤ n2 ∧ (len + m) * b ≤ 140737488355328 ∧ len + m ≤ 9223372036854775807 ∧
                      match lab with
                      | none => ∀ (a : Option Addr) (cap : Nat), m ≤ cap → k (.slc a cap H.length 0 m) (H ++ [.mem true el [] m rs])
                      | some l => ∀ (a : Option Addr) (cap : Nat), len + m ≤ cap → k (.slc a cap H.length 0 (len + m)) (H.set l .dead ++ [.mem true el [] (len + m) rs])
                    | false => False
                  | none => False
                | none => False
            | false => False
          | none => False
        | none => False
      | none => False
    | none => False
  | _ => False

theorem Rep.kill (hr : Rep E H w) (l : Nat) : Rep E (H.set l .dead) w ∧ Ext E H w E (H.set l .dead) w := by
  have old : ∀ (l3 : Nat) (o3 : Ob), (H.set l .dead)[l3]? = some o3 → o3 = .dead ∨ (l3 ≠ l ∧ H[l3]? = some o3) := by
    intro l3 o3 h3
    rw [List.getElem?_set] at h3
    split at h3
    · split at h3
      · injection h3 with h3; exact .inl h3.symm
      · simp at h3
    · rename_i hne; exact .inr ⟨fun e => hne e.symm, h3⟩
  refine ⟨⟨fun l3 o3 h3 => ?_, fun l1 l2 o1 o2 hne h1 h2 h3 h4 => ?_⟩, ⟨by simp, fun _ _ => rfl, rfl, rfl, rfl, Nat.le_refl _, fun _ _ _ => rfl, fun b hb => ?_⟩⟩
  · rw [List.length_set]
    rcases old l3 o3 h3 with rfl | ⟨_, h3⟩
    · trivial
    · exact hr.ob l3 o3 h3
  · rcases old l1 o1 h1 with rfl | ⟨_, b1⟩
    · simp [Ob.own] at h3
    · rcases old l2 o2 h2 with rfl | ⟨_, b2⟩
      · simp [Ob.live] at h4
      · exact hr.sep _ _ _ _ hne b1 b2 h3 h4
  · obtain ⟨l3, o3, h3, h4, h5⟩ := hb
    rcases old l3 o3 h3 with rfl | ⟨_, h3⟩
    · simp [Ob.own] at h4
    · exact .inl ⟨l3, o3, h3, h4, h5⟩

/-- One more label, for an object in a block that no other living label has. -/
theorem Rep.add (hr : Rep E H w) (ob : Ob) (L : Loc) (hfar : ∀ (l : Nat) (o : Ob), H[l]? = some o → o.live = true → (E l).real = true → L.real = true → (E l).block ≠ L.block) (hob : RepOb (setE E H.length L) (H.length + 1) w L ob) :
    Rep (setE E H.length L) (H ++ [ob]) w := by
  have hold : ∀ (l : Nat) (o' : Ob), H[l]? = some o' → l < H.length := fun l o' h => (List.getElem?_eq_some_iff.1 h).1
  constructor
  · intro l o' h
    rw [List.length_append, List.length_singleton]
    rcases getElem?_push_cases h with h1 | ⟨rfl, rfl⟩
    · rw [setE_old (hold l o' h1)]
      exact (hr.ob l o' h1).keep (fun k hk => setE_old hk) (by omega) (fun _ => rfl) (Nat.le_refl _)
    · rw [setE_new]; exact hob
  · intro l l' o1 o2 hne h1 h2 ho hl hre hre'
    rcases getElem?_push_cases h1 with k1 | ⟨k1, j1⟩ <;> rcases getElem?_push_cases h2 with k2 | ⟨k2, j2⟩
    · rw [setE_old (hold l _ k1)] at hre ⊢
      rw [setE_old (hold l' _ k2)] at hre' ⊢
      exact hr.sep l l' o1 o2 hne k1 k2 ho hl hre hre'
    · rw [setE_old (hold l _ k1)] at hre ⊢
      rw [k2, setE_new] at hre' ⊢
      exact hfar l o1 k1 (live_of_own ho) hre hre'
    · rw [setE_old (hold l' _ k2)] at hre' ⊢
      rw [k1, setE_new] at hre ⊢
      exact (hfar l' o2 k2 hl hre' hre).symm
    · exact absurd (k1.trans k2.symm) hne

/-- The elements of a slice, one behind the other. -/
def elemsL (st n : Nat) (cols : List Col) : List V := (List.range n).flatMap fun i => cols.map (·.at (st + i))

theorem elems_length {st n : Nat} {cols : List Col} : (elemsL st n cols).length = n * cols.length := by
  unfold elemsL
  induction n with
  | zero => simp
  | succ n ih => rw [List.range_succ, List.flatMap_append, List.length_append, ih]; simp [Nat.add_mul]

theorem elems_get {st n : Nat} {cols : List Col} {i j : Nat} {c : Col} (hi : i < n) (hj : cols[j]? = some c) : (elemsL st n cols)[i * cols.length + j]? = some (c.at (st + i)) := by
  have hjl : j < cols.length := (List.getElem?_eq_some_iff.1 hj).1
  induction n with
  | zero => omega
  | succ n ih =>
    have hsucc : elemsL st (n + 1) cols = elemsL st n cols ++ cols.map (·.at (st + n)) := by
      unfold elemsL
      rw [List.range_succ, List.flatMap_append]
      simp
    rw [hsucc]
    by_cases h : i < n
    · have hlt : i * cols.length + j < (elemsL st n cols).length := by
        rw [elems_length]
        have : (i + 1) * cols.length ≤ n * cols.length := Nat.mul_le_mul_right _ h
        rw [Nat.add_mul] at this; omega
      rw [List.getElem?_append_left hlt]
      exact ih h
    · obtain rfl : i = n := by omega
      rw [List.getElem?_append_right (by rw [elems_length]; omega), elems_length]
      simp [hj]

theorem elems_inv {st n : Nat} {cols : List Col} {p : Nat} {v : V} (h : (elemsL st n cols)[p]? = some v) :
    ∃ i j c, i < n ∧ j < cols.length ∧ p = i * cols.length + j ∧ cols[j]? = some c ∧ v = c.at (st + i) := by
  have hp : p < n * cols.length := by rw [← elems_length (st := st)]; exact (List.getElem?_eq_some_iff.1 h).1
  have hs : 0 < cols.length := by
    rcases Nat.eq_zero_or_pos cols.length with h0 | h0
    · rw [h0] at hp; omega
    · exact h0
  have hj : p % cols.length < cols.length := Nat.mod_lt _ hs
  have hi : p / cols.length < n := (Nat.div_lt_iff_lt_mul hs).2 hp
  have hpe : p = p / cols.length * cols.length + p % cols.length := by
    have := Nat.div_add_mod p cols.length
    rw [Nat.mul_comm] at this; exact this.symm
  refine ⟨_, _, cols[p % cols.length], hi, hj, hpe, List.getElem?_eq_getElem hj, ?_⟩
  have := elems_get (st := st) hi (List.getElem?_eq_getElem hj)
  rw [← hpe, h] at this
  injection this

/-- The elements of a slice, as the machine reads them. -/
theorem slice_cells {a : Option Addr} {cap l st len n : Nat} {own : Bool} {ty : TypeId} {cols : List Col} (hr : Rep E H w) (hl : H[l]? = some (.mem own ty [] n cols)) (hw : WF E H.length (.slc a cap l st len)) (hn : st + len ≤ n) :
    WFs E H.length (elemsL st len cols) ∧ (elemsL st len cols).all V.one = true ∧
    (∀ x, a = some x → ∀ (j : Nat) (u : Value), (embs E (elemsL st len cols))[j]? = some u → w.cell? (x.add j) = some u) ∧
    (Builtin.firstCells cols.length len (.slice a len cap)).run P w = .ok (embs E (elemsL st len cols)).toArray w := by
  obtain ⟨_, o2, _, o4, _⟩ := hr.ob l _ hl
  simp only [WF] at hw
  have hall : ∀ v ∈ elemsL st len cols, WF E H.length v ∧ v.one = true := by
    intro v hv
    obtain ⟨p, hp⟩ := List.getElem?_of_mem hv
    obtain ⟨i, j, c, hi, hj, _, hc, rfl⟩ := elems_inv hp
    have := o4 (st + i) (by omega) j c hc
    exact ⟨this.2.2, this.2.1⟩
  have hcells : ∀ x, a = some x → ∀ (p : Nat) (u : Value), (embs E (elemsL st len cols))[p]? = some u → w.cell? (x.add p) = some u := by
    intro x hx p u hu
    rw [embs_eq, List.getElem?_map] at hu
    cases hp : (elemsL st len cols)[p]? with
    | none => rw [hp] at hu; simp at hu
    | some v =>
      rw [hp] at hu
      simp only [Option.map_some, Option.some.injEq] at hu
      subst hu
      obtain ⟨i, j, c, hi, hj, rfl, hc, rfl⟩ := elems_inv hp
      obtain ⟨g1, _⟩ := hw.2.2.2 (by omega)
      rw [hx] at g1
      injection g1 with g1
      rw [g1, at_add, ← (o4 (st + i) (by omega) j c hc).1]
      congr 1
      unfold Loc.at
      congr 1
      rw [o2, Nat.add_mul]; simp; omega
  refine ⟨WFs_iff.2 fun v hv => (hall v hv).1, List.all_eq_true.2 fun v hv => (hall v hv).2, hcells, ?_⟩
  cases a with
  | none =>
    have h0 : len = 0 := by
      rcases Nat.eq_zero_or_pos cap with h | h
      · omega
      · have := (hw.2.2.2 h).1; cases this
    subst h0
    simp [Builtin.firstCells, elemsL, embs]
  | some x => exact run_firstCells_some w _ _ _ _ _ _ (by simp [embs_eq, elems_length]) (hcells x rfl)

/-- A row that nothing stands behind: nil, or a slice without room. -/
theorem add_ghost (hr : Rep E H w) (el : TypeId) (rs : List Col) :
    Rep (setE E H.length ⟨0, 0, rs.length, 0, false⟩) (H ++ [.mem true el [] 0 rs]) w ∧ Ext E H w (setE E H.length ⟨0, 0, rs.length, 0, false⟩) (H ++ [.mem true el [] 0 rs]) w := by
  refine ⟨hr.add _ _ (fun _ _ _ _ _ h => (by cases h)) ⟨fun h => (by cases h), rfl, fun j v hj => (by simp at hj), fun i hi => (by omega), fun _ => ⟨Nat.le_refl _, fun h => (by cases h)⟩, fun _ => ⟨rfl, rfl, rfl⟩, fun h => (by cases h)⟩,
    ⟨by simp, fun l hl => setE_old hl, rfl, rfl, rfl, Nat.le_refl _, fun _ _ _ => rfl, fun b hb => ?_⟩⟩
  obtain ⟨l, o, h1, h2, h3, h4⟩ := hb
  rcases getElem?_push_cases h1 with h1 | ⟨rfl, rfl⟩
  · have hlt : l < H.length := (List.getElem?_eq_some_iff.1 h1).1
    rw [setE_old hlt] at h3 h4
    exact .inl ⟨l, o, h1, h2, h3, h4⟩
  · rw [setE_new] at h3; cases h3

theorem run_growCap {q : Question} (w : World) (hq : q.forced = false) : (choose q).run P w = .ok (q.cut (w.tape w.drawn q)) w.drew := by
  simp [hq]
end
end Go.Proofs.YtonohiifmepjfaaDoor.Ev
