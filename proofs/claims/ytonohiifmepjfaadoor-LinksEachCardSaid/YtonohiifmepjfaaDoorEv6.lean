/-
  Own framework, part 6: new blocks, and stores.
-/
import Derived.Test.YtonohiifmepjfaaDoorEv5
import Derived.Laws.Append
import Derived.Laws.Rows
namespace Go.Proofs.YtonohiifmepjfaaDoor.Ev
open Go Go.RowKit

def setE (E : Env) (N : Nat) (L : Loc) : Env := fun l => if l = N then L else E l

section
variable {P : Program} {E : Env} {H : List Ob} {w : World}

theorem setE_old {N : Nat} {L : Loc} {l : Nat} (h : l < N) : setE E N L l = E l := by unfold setE; rw [if_neg (by omega)]
theorem setE_new {N : Nat} {L : Loc} : setE E N L N = L := by simp [setE]

theorem getElem?_push_cases {α : Type} {l : List α} {x y : α} {i : Nat} (h : (l ++ [x])[i]? = some y) : l[i]? = some y ∨ (i = l.length ∧ y = x) := by
  rw [List.getElem?_append] at h
  split at h
  · exact .inl h
  · rename_i hlt
    right
    have : i - l.length = 0 := by
      rcases Nat.eq_zero_or_pos (i - l.length) with h0 | h0
      · exact h0
      · rw [List.getElem?_eq_none (by simp; omega)] at h; simp at h
    rw [this] at h
    simp at h
    exact ⟨by omega, h.symm⟩

/-- A new block. -/
theorem Rep.push (hr : Rep E H w) (o : Obj) (ob : Ob) (L : Loc) (hL : L.real = true → L.block = w.heap.size) (hob : RepOb (setE E H.length L) (H.length + 1) (w.alloc o) L ob) :
    Rep (setE E H.length L) (H ++ [ob]) (w.alloc o) ∧ Ext E H w (setE E H.length L) (H ++ [ob]) (w.alloc o) := by
  have hold : ∀ l o', H[l]? = some o' → l < H.length := fun l o' h => (List.getElem?_eq_some_iff.1 h).1
  constructor
  · constructor
    · intro l o' h
      rw [List.length_append, List.length_singleton]
      rcases getElem?_push_cases h with h1 | ⟨rfl, rfl⟩
      · have hlt := hold l o' h1
        rw [setE_old hlt]
        cases hlive : o'.live with
        | false => cases o' <;> simp_all [Ob.live, RepOb]
        | true =>
          exact (hr.ob l o' h1).keep (fun k hk => setE_old hk) (by omega) (fun hre => Below.heap_alloc w o _ (hr.lt h1 hlive hre)) (by simp)
      · rw [setE_new]; exact hob
    · intro l l' o1 o2 hne h1 h2 ho hl hre hre'
      rcases getElem?_push_cases h1 with k1 | ⟨k1, j1⟩ <;> rcases getElem?_push_cases h2 with k2 | ⟨k2, j2⟩
      · rw [setE_old (hold l _ k1)] at hre ⊢
        rw [setE_old (hold l' _ k2)] at hre' ⊢
        exact hr.sep l l' o1 o2 hne k1 k2 ho hl hre hre'
      · rw [setE_old (hold l _ k1)] at hre ⊢
        rw [k2, setE_new] at hre' ⊢
        rw [hL hre']
        have := hr.lt k1 (live_of_own ho) hre
        omega
      · rw [k1, setE_new] at hre ⊢
        rw [setE_old (hold l' _ k2)] at hre' ⊢
        rw [hL hre]
        have := hr.lt k2 hl hre'
        omega
      · exact absurd (k1.trans k2.symm) hne
  · refine ⟨by simp, fun l hl => setE_old hl, rfl, rfl, rfl, by simp, fun b hb _ => Below.heap_alloc w o b hb, fun b hb => ?_⟩
    obtain ⟨l, o', h1, h2, h0, h3⟩ := hb
    rcases getElem?_push_cases h1 with h1 | ⟨rfl, rfl⟩
    · rw [setE_old (hold l _ h1)] at h0 h3
      exact .inl ⟨l, o', h1, h2, h0, h3⟩
    · rw [setE_new] at h0 h3
      rw [hL h0] at h3
      exact .inr (by omega)

/-- A new block of cells, all of them told. -/
theorem mem_new {E' : Env} {N : Nat} {L : Loc} {arr : Array Value} {el ty : TypeId} {pre : List V} {n : Nat} {cols : List Col} (hL : L = ⟨w.heap.size, 0, cols.length, L.cap, true⟩)
    (hpre : ∀ (j : Nat) (v : V), pre[j]? = some v → arr[j]? = some (emb E' v) ∧ v.one = true ∧ WF E' N v)
    (hcol : ∀ (i : Nat), i < n → ∀ (j : Nat) (c : Col), cols[j]? = some c → arr[pre.length + i * cols.length + j]? = some (emb E' (c.at i)) ∧ (c.at i).one = true ∧ WF E' N (c.at i))
    (hn : n ≤ L.cap) (hsz : pre.length + L.cap * cols.length ≤ arr.size) (hty : el = ty) : RepOb E' N (w.alloc (.cells arr el)) L (.mem true ty pre n cols) := by
  subst hty
  rw [hL]
  refine ⟨fun _ => by simp, rfl, fun j v hj => ?_, fun i hi j c hj => ?_, fun _ => ⟨by simpa using hn, fun _ => ⟨arr, ?_, by simpa using hsz⟩⟩, fun h => (by cases h), fun h => (by cases h)⟩
  · have := hpre j v hj
    refine ⟨?_, this.2⟩
    rw [← this.1]
    simp [Loc.at, World.cell?_alloc_new]
  · have := hcol i hi j c hj
    refine ⟨?_, this.2⟩
    rw [← this.1]
    simp only [Loc.at, World.cell?_alloc_new, Nat.zero_add]
    congr 1
    omega
  · exact heap_alloc_new w _

/-! ### A store into a cell -/
def setCellV (n e : Nat) : List V → List Col → Nat → V → Option (Cond × List V × List Col)
  | _ :: pre, cols, 0, v => match e with
    | 0 => some (none, v :: pre, cols)
    | _ => none
  | u :: pre, cols, c + 1, v => match setCellV n e pre cols c v with
    | some (vc, pre', cols') => some (vc, u :: pre', cols')
    | none => none
  | [], col :: cols, 0, v => match col.set e v with
    | some col' => some (some (e < n), [], col' :: cols)
    | none => none
  | [], col :: cols, c + 1, v => match setCellV n e [] cols c v with
    | some (vc, pre', cols') => some (vc, pre', col :: cols')
    | none => none
  | [], [], _, _ => none

theorem col_set {c c' : Col} {e : Nat} {v : V} (h : c.set e v = some c') : c'.at e = v ∧ ∀ i, i ≠ e → c'.at i = c.at i := by
  unfold Col.set at h
  split at h
  · split at h
    · rename_i hk; simp at h; subst h; subst hk
      exact ⟨by simp [Col.at, upd], fun i hi => by simp [Col.at, upd, hi]⟩
    · simp at h
  · simp at h; subst h; exact ⟨by simp [Col.at, upd], fun i hi => by simp [Col.at, upd, hi]⟩
  · simp at h; subst h; exact ⟨by simp [Col.at, upd], fun i hi => by simp [Col.at, upd, hi]⟩
  · simp at h; subst h; exact ⟨by simp [Col.at, upd], fun i hi => by simp [Col.at, upd, hi]⟩
  · simp at h

theorem setCols {n e : Nat} : ∀ {cols : List Col} {c : Nat} {v : V} {vc : Cond} {pre' : List V} {cols' : List Col}, setCellV n e [] cols c v = some (vc, pre', cols') →
    pre' = [] ∧ cols'.length = cols.length ∧ vc = some (e < n) ∧ c < cols.length ∧
    ∀ j col', cols'[j]? = some col' → ∃ col, cols[j]? = some col ∧ (∀ i, ¬ (i = e ∧ j = c) → col'.at i = col.at i) ∧ (j = c → col'.at e = v)
  | [], c, v, vc, pre', cols', h => by cases c <;> simp [setCellV] at h
  | col :: cols, 0, v, vc, pre', cols', h => by
    simp only [setCellV] at h
    split at h
    · rename_i col1 h1
      simp at h
      obtain ⟨rfl, rfl, rfl⟩ := h
      obtain ⟨a1, a2⟩ := col_set h1
      refine ⟨rfl, by simp, rfl, by simp, fun j col' hj => ?_⟩
      cases j with
      | zero =>
        simp at hj; subst hj
        exact ⟨col, by simp, fun i hi => a2 i (fun e => hi ⟨e, rfl⟩), fun _ => a1⟩
      | succ j => exact ⟨col', by simpa using hj, fun _ _ => rfl, fun h => by omega⟩
    · simp at h
  | col :: cols, c + 1, v, vc, pre', cols', h => by
    simp only [setCellV] at h
    split at h
    · rename_i vc1 p1 c1 h1
      simp at h
      obtain ⟨rfl, rfl, rfl⟩ := h
      obtain ⟨b1, b2, b3, b4, b5⟩ := setCols h1
      refine ⟨b1, by simp [b2], b3, by simp; omega, fun j col' hj => ?_⟩
      cases j with
      | zero => simp at hj; subst hj; exact ⟨col, by simp, fun _ _ => rfl, fun h => by omega⟩
      | succ j =>
        obtain ⟨q, q1, q2, q3⟩ := b5 j col' (by simpa using hj)
        exact ⟨q, by simpa using q1, fun i hi => q2 i (fun ⟨x, y⟩ => hi ⟨x, by omega⟩), fun h => q3 (by omega)⟩
    · simp at h

theorem setCell_char {n e : Nat} {cols : List Col} : ∀ {pre : List V} {c : Nat} {v : V} {vc : Cond} {pre' : List V} {cols' : List Col}, setCellV n e pre cols c v = some (vc, pre', cols') →
    pre'.length = pre.length ∧ cols'.length = cols.length ∧
    ((c < pre.length ∧ e = 0 ∧ cols' = cols ∧ pre' = pre.set c v) ∨
     (∃ j0, c = pre.length + j0 ∧ j0 < cols.length ∧ pre' = pre ∧ vc = some (e < n) ∧
      ∀ j col', cols'[j]? = some col' → ∃ col, cols[j]? = some col ∧ (∀ i, ¬ (i = e ∧ j = j0) → col'.at i = col.at i) ∧ (j = j0 → col'.at e = v)))
  | [], c, v, vc, pre', cols', h => by
    obtain ⟨rfl, h2, h3, h4, h5⟩ := setCols h
    exact ⟨rfl, h2, .inr ⟨c, by simp, h4, rfl, h3, h5⟩⟩
  | u :: pre, 0, v, vc, pre', cols', h => by
    cases e with
    | zero => simp [setCellV] at h; obtain ⟨_, rfl, rfl⟩ := h; exact ⟨by simp, rfl, .inl ⟨by simp, rfl, rfl, by simp⟩⟩
    | succ e => simp [setCellV] at h
  | u :: pre, c + 1, v, vc, pre', cols', h => by
    simp only [setCellV] at h
    split at h
    · rename_i vc1 p1 c1 h1
      simp at h
      obtain ⟨rfl, rfl, rfl⟩ := h
      obtain ⟨a1, a2, a3⟩ := setCell_char h1
      refine ⟨by simp [a1], a2, ?_⟩
      rcases a3 with ⟨b1, b2, b3, b4⟩ | ⟨j0, b1, b2, b3, b4⟩
      · exact .inl ⟨by simp; omega, b2, b3, by simp [b4]⟩
      · exact .inr ⟨j0, by simp; omega, b2, by simp [b3], b4⟩
    · simp at h

theorem heap_setCell_same {a : Addr} {v : Value} {arr : Array Value} {ty : TypeId} {fr : Nat × Nat} (h : w.heap[a.block]? = some (.cells arr ty fr)) (hs : a.spot = none) :
    (w.setCell a v).heap[a.block]? = some (.cells (arr.setIfInBounds a.off v) ty fr) := by
  simp [World.setCell, Array.getElem?_modify, h, hs]

/-- One cell of an object of one's own is written. -/
theorem Rep.setCell (hr : Rep E H w) {l e c : Nat} {ty : TypeId} {pre pre' : List V} {n : Nat} {cols cols' : List Col} {v : V} {vc : Cond} (hl : H[l]? = some (.mem true ty pre n cols))
    (h : setCellV n e pre cols c v = some (vc, pre', cols')) (hc : vc.holds) (hv : v.one = true) (hw : WF E H.length v) :
    (store ((E l).at e c) (emb E v)).run P w = .ok () (w.setCell ((E l).at e c) (emb E v)) ∧
    Rep E (H.set l (.mem true ty pre' n cols')) (w.setCell ((E l).at e c) (emb E v)) ∧ Ext E H w E (H.set l (.mem true ty pre' n cols')) (w.setCell ((E l).at e c) (emb E v)) := by
  obtain ⟨o1, o2, o3, o4, o5, o6⟩ := hr.ob l _ hl
  obtain ⟨c1, c2, c3⟩ := setCell_char h
  have hre : (E l).real = true := by
    cases hx : (E l).real with
    | true => rfl
    | false =>
      obtain ⟨rfl, rfl, _⟩ := o6.1 hx
      rcases c3 with ⟨q1, _, _, _⟩ | ⟨j0, _, _, _, hvc, _⟩
      · simp at q1
      · rw [hvc] at hc; simp [Cond.holds] at hc
  obtain ⟨p1, p4⟩ := o5 rfl
  obtain ⟨arr, p2, p3⟩ := p4 hre
  have hll : l < H.length := (List.getElem?_eq_some_iff.1 hl).1
  -- the cell is there
  have hcell : ∃ u, w.cell? ((E l).at e c) = some u := by
    rcases c3 with ⟨q1, rfl, q2, q3⟩ | ⟨j0, rfl, q1, q2, rfl, q3⟩
    · exact ⟨_, (o3 c pre[c] (by simp [q1])).1⟩
    · exact ⟨_, (o4 e hc j0 cols[j0] (by simp [q1])).1⟩
  obtain ⟨u, hu⟩ := hcell
  have hfro : w.frozen? ((E l).at e c) = false := by
    simp only [World.frozen?, Loc.at, p2]
    simp
  have hrun : (store ((E l).at e c) (emb E v)).run P w = .ok () (w.setCell ((E l).at e c) (emb E v)) := by
    rw [run_store P w _ _ _ (emb_one hv), hu]
    simp [hfro]
  have hheap : ∀ b, b ≠ (E l).block → (w.setCell ((E l).at e c) (emb E v)).heap[b]? = w.heap[b]? := fun b hb => Below.heap_setCell w _ _ b (by simpa [Loc.at] using hb)
  have hsame : (w.setCell ((E l).at e c) (emb E v)).cell? ((E l).at e c) = some (emb E v) := World.cell?_setCell_same w _ _ hu
  have hother : ∀ a, a ≠ (E l).at e c → (w.setCell ((E l).at e c) (emb E v)).cell? a = w.cell? a := fun a ha => World.cell?_setCell_other w _ a _ (Ne.symm ha)
  refine ⟨hrun, ⟨fun l' o' h' => ?_, fun l1 l2 ob1 ob2 hne h1 h2 ho hlv => ?_⟩, ⟨by simp, fun _ _ => rfl, rfl, rfl, rfl, by simp, fun b hb hn => hheap b (fun e1 => hn ⟨l, _, hl, rfl, hre, e1.symm⟩), fun b hb => ?_⟩⟩
  · rw [List.length_set]
    rw [List.getElem?_set] at h'
    split at h'
    · rename_i heq
      subst heq
      simp at h'
      obtain ⟨_, rfl⟩ := h'
      refine ⟨fun _ => by simpa using o1 hre, by rw [c2]; exact o2, fun j x hj => ?_, fun i hi j col' hj => ?_, fun _ => ?_, fun h => (by rw [hre] at h; cases h), fun h => (by cases h)⟩
      · rcases c3 with ⟨q1, rfl, rfl, rfl⟩ | ⟨j0, rfl, q1, rfl, rfl, q3⟩
        · rw [List.getElem?_set] at hj
          split at hj
          · rename_i hjc
            subst hjc
            simp at hj
            obtain ⟨_, rfl⟩ := hj
            exact ⟨hsame, hv, hw⟩
          · rename_i hjc
            obtain ⟨r1, r2⟩ := o3 j x hj
            exact ⟨by rw [hother _ (by simp [Loc.at]; omega), r1], r2⟩
        · obtain ⟨r1, r2⟩ := o3 j x hj
          have hjl := (List.getElem?_eq_some_iff.1 hj).1
          refine ⟨by rw [hother _ (by simp only [Loc.at, ne_eq, Addr.mk.injEq, true_and, and_true]; omega), r1], r2⟩
      · rw [c1]
        rcases c3 with ⟨q1, rfl, rfl, rfl⟩ | ⟨j0, rfl, q1, rfl, rfl, q3⟩
        · obtain ⟨r1, r2⟩ := o4 i hi j col' hj
          refine ⟨by rw [hother _ (by simp only [Loc.at, ne_eq, Addr.mk.injEq, true_and, and_true]; omega), r1], r2⟩
        · obtain ⟨col, s1, s2, s3⟩ := q3 j col' hj
          have hjl : j < cols.length := (List.getElem?_eq_some_iff.1 s1).1
          by_cases heq : i = e ∧ j = j0
          · obtain ⟨rfl, rfl⟩ := heq
            rw [s3 rfl]
            exact ⟨hsame, hv, hw⟩
          · rw [s2 i heq]
            obtain ⟨r1, r2⟩ := o4 i hi j col s1
            have hne : ¬ (E l).off + i * cols.length + (pre'.length + j) = (E l).off + e * cols.length + (pre'.length + j0) := fun heq2 => by
              rcases Nat.lt_trichotomy i e with hlt | rfl | hlt
              · have : (i + 1) * cols.length ≤ e * cols.length := Nat.mul_le_mul_right _ hlt
                rw [Nat.add_mul] at this; omega
              · exact heq ⟨rfl, by omega⟩
              · have : (e + 1) * cols.length ≤ i * cols.length := Nat.mul_le_mul_right _ hlt
                rw [Nat.add_mul] at this; omega
            refine ⟨by rw [hother _ (by simpa [Loc.at, o2] using hne), r1], r2⟩
      · refine ⟨p1, fun _ => ⟨_, heap_setCell_same (by simpa [Loc.at] using p2) rfl, ?_⟩⟩
        rw [c1, c2]; simpa using p3
    · rename_i hne
      have hk := hr.ob l' o' h'
      cases hlive : o'.live with
      | false => cases o' <;> simp_all [Ob.live, RepOb]
      | true => exact hk.keep (fun _ _ => rfl) (Nat.le_refl _) (fun hre' => hheap _ (Ne.symm (hr.sep l l' _ o' hne hl h' rfl hlive hre hre'))) (by simp)
  · have old : ∀ (l3 : Nat) (o3 : Ob), (H.set l (.mem true ty pre' n cols'))[l3]? = some o3 → ∃ o4 : Ob, H[l3]? = some o4 ∧ o4.own = o3.own ∧ o4.live = o3.live := by
      intro l3 o3 h3
      rw [List.getElem?_set] at h3
      split at h3
      · rename_i heq; subst heq; simp at h3; obtain ⟨_, rfl⟩ := h3; exact ⟨_, hl, rfl, rfl⟩
      · exact ⟨o3, h3, rfl, rfl⟩
    obtain ⟨x1, y1, z1, _⟩ := old l1 ob1 h1
    obtain ⟨x2, y2, _, z2⟩ := old l2 ob2 h2
    exact hr.sep l1 l2 x1 x2 hne y1 y2 (z1.trans ho) (z2.trans hlv)
  · obtain ⟨l3, o3, h3, h4, h5⟩ := hb
    rw [List.getElem?_set] at h3
    split at h3
    · rename_i heq; subst heq; exact .inl ⟨l, _, hl, rfl, h5⟩
    · exact .inl ⟨l3, o3, h3, h4, h5⟩

def setMany (n e : Nat) (pre : List V) (cols : List Col) : Nat → List V → Option (Cond × List V × List Col)
  | _, [] => some (none, pre, cols)
  | c, v :: vs => match v.one with
    | true => match setCellV n e pre cols c v with
      | some (vc, pre', cols') => match setMany n e pre' cols' (c + 1) vs with
        | some (vd, pre'', cols'') => some (vc.and vd, pre'', cols'')
        | none => none
      | none => none
    | false => none

theorem setMany_sound : ∀ (vs : List V) {H : List Ob} {w : World} {l e c k : Nat} {ty : TypeId} {pre pre' : List V} {n : Nat} {cols cols' : List Col} {vc : Cond}, Rep E H w → H[l]? = some (.mem true ty pre n cols) →
    setMany n e pre cols (c + k) vs = some (vc, pre', cols') → vc.holds → WFs E H.length vs →
    ∃ w', (storeCells ((E l).at e c) (embs E vs) k).run P w = .ok () w' ∧ Rep E (H.set l (.mem true ty pre' n cols')) w' ∧ Ext E H w E (H.set l (.mem true ty pre' n cols')) w'
  | [], H, w, l, e, c, k, ty, pre, pre', n, cols, cols', vc, hr, hl, h, hc, hw => by
    simp [setMany] at h
    obtain ⟨_, rfl, rfl⟩ := h
    have hset : H.set l (.mem true ty pre n cols) = H := by
      apply List.ext_getElem?
      intro j
      rw [List.getElem?_set]
      split
      · rename_i heq; subst heq; rw [hl]; simp [(List.getElem?_eq_some_iff.1 hl).1]
      · rfl
    rw [hset]
    exact ⟨w, by simp [embs, storeCells], hr, Ext.refl E H w⟩
  | v :: vs, H, w, l, e, c, k, ty, pre, pre', n, cols, cols', vc, hr, hl, h, hc, hw => by
    simp only [setMany] at h
    split at h
    · rename_i hone
      split at h
      · rename_i vc1 p1 c1 h1
        split at h
        · rename_i vd p2 c2 h2
          simp at h
          obtain ⟨rfl, rfl, rfl⟩ := h
          obtain ⟨hc1, hc2⟩ := Cond.and_holds hc
          simp only [WFs] at hw
          obtain ⟨r1, r2, r3⟩ := hr.setCell (P := P) hl h1 hc1 hone hw.1
          have hll : l < H.length := (List.getElem?_eq_some_iff.1 hl).1
          have hl2 : (H.set l (.mem true ty p1 n c1))[l]? = some (.mem true ty p1 n c1) := by simp [hll]
          obtain ⟨w', s1, s2, s3⟩ := setMany_sound vs r2 hl2 (show setMany n e p1 c1 (c + (k + 1)) vs = _ from h2) hc2 (by simpa using hw.2)
          refine ⟨w', ?_, by simpa using s2, by simpa using r3.trans s3⟩
          simp only [embs, storeCells, Sem.run_bind, at_add, r1, Result.andThen_ok]
          exact s1
        · simp at h
      · simp at h
    · simp at h

def storeV (P : Program) (t : TypeId) (H : List Ob) (p v : V) : Option (Cond × List Ob) :=
  match p with
  | .ptr l e c => match H[l]? with
    | some (.mem true ty pre n cols) => match szOf P t with
      | some s => match decide (v.parts.length = s) with
        | true => match setMany n e pre cols c v.parts with
          | some (vc, pre', cols') => some (vc, H.set l (.mem true ty pre' n cols'))
          | none => none
        | false => none
      | none => none
    | _ => none
  | _ => none

theorem storeV_sound {t : TypeId} {p v : V} {vc : Cond} {H' : List Ob} (hr : Rep E H w) (hw : WF E H.length v) (h : storeV P t H p v = some (vc, H')) (hc : vc.holds) :
    ∃ w', (Instr.storeAt t (emb E p) (emb E v)).run P w = .ok () w' ∧ Rep E H' w' ∧ Ext E H w E H' w' ∧ H'.length = H.length := by
  unfold storeV at h
  split at h
  · rename_i l e c
    split at h
    · rename_i ty pre n cols hl
      split at h
      · rename_i s hs
        split at h
        · rename_i hd
          simp only [decide_eq_true_eq] at hd
          split at h
          · rename_i vd p1 c1 hm
            simp at h
            obtain ⟨rfl, rfl⟩ := h
            obtain ⟨w', s1, s2, s3⟩ := setMany_sound (P := P) v.parts hr (k := 0) hl hm hc (parts_wf hw)
            refine ⟨w', ?_, s2, s3, by simp⟩
            have hsz : (emb E v).cells.size = s := by rw [emb_parts]; simp [embs_eq, hd]
            have hls : (emb E v).cells.toList = embs E v.parts := by rw [emb_parts]
            simp only [Instr.storeAt, emb, Instr.sureAddr, Sem.run_bind, Sem.run_pure, Result.andThen_ok, storeVar, run_sizeOf' hs, hsz, ne_eq, not_true_eq_false, if_false, hls]
            exact s1
          · simp at h
        · simp at h
      · simp at h
    · simp at h
  · simp at h
end
end Go.Proofs.YtonohiifmepjfaaDoor.Ev
