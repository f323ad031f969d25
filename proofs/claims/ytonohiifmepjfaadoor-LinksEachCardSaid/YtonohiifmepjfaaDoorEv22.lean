/-
  Own framework, part 22: from a call reckoned to a row: arguments that read as plain data stand in an abstract memory; behind the call they read as before.
-/
import Derived.Test.YtonohiifmepjfaaDoorEv21
import Derived.ProofKit
import Derived.Carry
import Derived.Deep.Slices
namespace Go.Proofs.YtonohiifmepjfaaDoor.Ev
open Go Go.RowKit Go.ChangeShapes Go.WideShapes

inductive CK where
  | bool
  | int (k : IntKind)
  | str
  deriving DecidableEq

/-- The cells of a type of bools, numbers, strings, and structs of such. -/
def flatFs (P : Program) (sub : TypeId → Option (List CK)) : List Field → Nat → Option (List CK)
  | [], _ => some []
  | f :: fs, off => match sub f.type with
    | some ks => if f.offset = off ∧ P.cellsOf f.type = ks.length then match flatFs P sub fs (off + ks.length) with
        | some ks' => some (ks ++ ks')
        | none => none
      else none
    | none => none
def flatK (P : Program) : Nat → TypeId → Option (List CK)
  | 0, _ => none
  | n + 1, t => match P.underlying t with
    | some .bool => some [.bool]
    | some (.int k) => some [.int k]
    | some .string => some [.str]
    | some (.struct fs) => match flatFs P (flatK P n) fs.toList 0 with
      | some ks => if P.cellsOf t = ks.length then some ks else none
      | none => none
    | _ => none

def CKok : CK → Value → Prop
  | .bool, v => ∃ b, v = .bool b
  | .int k, v => ∃ n, v = .int k n ∧ (Lit.int k n).wf = true
  | .str, v => ∃ s : ByteArray, v = .string s ∧ s.size ≤ maxLen
def CKs : List CK → List Value → Prop
  | [], [] => True
  | k :: ks, v :: vs => CKok k v ∧ CKs ks vs
  | _, _ => False
theorem CKs_append : ∀ {ks ks' : List CK} {vs vs' : List Value}, CKs ks vs → CKs ks' vs' → CKs (ks ++ ks') (vs ++ vs')
  | [], _, [], _, _, h => h
  | _ :: _, _, _ :: _, _, h, h' => ⟨h.1, CKs_append h.2 h'⟩
theorem CKs_length : ∀ {ks : List CK} {vs : List Value}, CKs ks vs → vs.length = ks.length
  | [], [], _ => rfl
  | k :: ks, v :: vs, h => by simp [CKs_length h.2]
theorem CKs_get : ∀ {ks : List CK} {vs : List Value} {j : Nat} {k : CK}, CKs ks vs → ks[j]? = some k → ∃ v, vs[j]? = some v ∧ CKok k v
  | [], _, j, k, _, h => by simp at h
  | c :: ks, v :: vs, j, k, h, hj => by
    cases j with
    | zero => simp at hj; subst hj; exact ⟨v, by simp, h.1⟩
    | succ j =>
      obtain ⟨u, h1, h2⟩ := CKs_get h.2 (show ks[j]? = some k by simpa using hj)
      exact ⟨u, by simpa using h1, h2⟩

section
variable {H : Type} {enc : TypeId × Value → H} {P : Program} {w : World} {base : Nat} {spare : Nat → Bool} {held : Bool}

theorem flatFs_trod {sub : TypeId → Option (List CK)} {m : Nat} {cs : List Value}
    (hsub : ∀ t ks c x, sub t = some ks → DataW.trod enc P w base spare held m t c = some x → CKs ks c) :
    ∀ {fs : List Field} {off : Nat} {ks : List CK}, flatFs P sub fs off = some ks → (∀ f ∈ fs, ∃ x, DataW.trod enc P w base spare held m f.type ((cs.drop f.offset).take (P.cellsOf f.type)) = some x) →
    CKs ks ((cs.drop off).take ks.length)
  | [], off, ks, h, _ => by simp [flatFs] at h; subst h; simp [CKs]
  | f :: fs, off, ks, h, hx => by
    simp only [flatFs] at h
    split at h <;> try (simp at h; done)
    rename_i k1 h1
    split at h <;> try (simp at h; done)
    rename_i hc
    split at h <;> try (simp at h; done)
    rename_i k2 h2
    simp at h; subst h
    obtain ⟨x, hx1⟩ := hx f (List.mem_cons_self ..)
    have g1 := hsub _ _ _ _ h1 hx1
    rw [hc.1, hc.2] at g1
    have g2 := flatFs_trod hsub h2 (fun g hg => hx g (List.mem_cons_of_mem _ hg))
    have := CKs_append g1 g2
    rw [List.length_append, List.take_add, List.drop_drop]
    exact this

theorem flat_trod : ∀ {n m : Nat} {t : TypeId} {ks : List CK} {cs : List Value} {x : DataW H × List MemPlace}, flatK P n t = some ks → DataW.trod enc P w base spare held m t cs = some x → CKs ks cs
  | 0, m, t, ks, cs, x, h, _ => by simp [flatK] at h
  | n + 1, m, t, ks, cs, x, h, ht => by
    simp only [flatK] at h
    split at h
    · rename_i hu; simp at h; subst h
      obtain ⟨b, rfl, _⟩ := DataW.trod_bool hu ht
      exact ⟨⟨b, rfl⟩, trivial⟩
    · rename_i k hu; simp at h; subst h
      obtain ⟨i, rfl, _, hw⟩ := DataW.trod_int hu ht
      exact ⟨⟨i, rfl, hw⟩, trivial⟩
    · rename_i hu; simp at h; subst h
      obtain ⟨s, rfl, _, hs⟩ := DataW.trod_string hu ht
      exact ⟨⟨s, rfl, hs⟩, trivial⟩
    · rename_i fs hu
      split at h <;> try (simp at h; done)
      rename_i ks' h1
      split at h <;> try (simp at h; done)
      rename_i hc
      simp at h; subst h
      obtain ⟨xs, m', _, _, hlen, hxl, hg⟩ := DataW.trod_struct hu ht
      have := flatFs_trod (P := P) (cs := cs) (fun t ks c x h hx => flat_trod (n := n) h hx) h1 (fun f hf => by
        obtain ⟨i, hi⟩ := List.getElem?_of_mem hf
        have hi' : fs[i]? = some f := by simpa using hi
        have hlt : i < xs.length := by rw [hxl]; exact (Array.getElem?_eq_some_iff.1 hi').1
        exact ⟨xs[i], by rw [hg i f hi']; simp [hlt]⟩)
      rw [List.drop_zero, ← hc, ← hlen, List.take_length] at this
      exact this
    · simp at h

/-- A struct of plain cells, by value. -/
theorem open_flat {r : Reach} {b0 : Nat} {n : Nat} {t : TypeId} {fs : Array Field} {ks : List CK} {v : Value} {d : DataW H} {p : List MemPlace} (hs : P.underlying t = some (.struct fs)) (hk : flatK P n t = some ks)
    (hv : Value.okWide P w r b0 t v) (h : DataW.Trod enc P w base spare held t v d p) : ∃ cs : List Value, v = .agg cs.toArray ∧ CKs ks cs := by
  obtain ⟨cs, rfl, hsz⟩ := okWide_struct hs hv
  obtain ⟨fuel, hf⟩ := h
  exact ⟨cs.toList, by simp, by simpa [Value.cells] using flat_trod hk hf⟩

/-- A number that a cell holds. -/
def cellI (w : World) (a : Addr) : Int := match w.cell? a with
  | some (.int _ n) => n
  | _ => 0
def cellB (w : World) (a : Addr) : Bool := match w.cell? a with
  | some (.bool b) => b
  | _ => false
def cellS (w : World) (a : Addr) : ByteArray := match w.cell? a with
  | some (.string s) => s
  | _ => ByteArray.empty
def colsFrom (w : World) (a : Addr) (sz : Nat) : List CK → Nat → List Col
  | [], _ => []
  | .bool :: ks, j => .bool (fun i => cellB w (a.add (i * sz + j))) :: colsFrom w a sz ks (j + 1)
  | .int k :: ks, j => .int k (fun i => cellI w (a.add (i * sz + j))) :: colsFrom w a sz ks (j + 1)
  | .str :: ks, j => .str (fun i => cellS w (a.add (i * sz + j))) :: colsFrom w a sz ks (j + 1)
theorem colsFrom_length {w : World} {a : Addr} {sz : Nat} : ∀ {ks : List CK} {j : Nat}, (colsFrom w a sz ks j).length = ks.length
  | [], j => rfl
  | .bool :: ks, j | .int k :: ks, j | .str :: ks, j => by simp [colsFrom, colsFrom_length (ks := ks)]
theorem colsFrom_at {w : World} {a : Addr} {sz i : Nat} {E : Env} {N : Nat} : ∀ {ks : List CK} {j0 j : Nat} {c : Col}, (colsFrom w a sz ks j0)[j]? = some c →
    (∀ j k, ks[j]? = some k → ∃ v, w.cell? (a.add (i * sz + (j0 + j))) = some v ∧ CKok k v) →
    w.cell? (a.add (i * sz + (j0 + j))) = some (emb E (c.at i)) ∧ (c.at i).one = true ∧ WF E N (c.at i)
  | [], j0, j, c, h, _ => by simp [colsFrom] at h
  | k :: ks, j0, j, c, h, hk => by
    cases j with
    | zero =>
      obtain ⟨v, h1, h2⟩ := hk 0 k (by simp)
      rw [Nat.add_zero] at h1 ⊢
      cases k with
      | bool => simp [colsFrom] at h; subst h; obtain ⟨b, rfl⟩ := h2; simp [Col.at, emb, cellB, h1, V.one, WF]
      | int k => simp [colsFrom] at h; subst h; obtain ⟨b, rfl, _⟩ := h2; simp [Col.at, emb, cellI, h1, V.one, WF]
      | str => simp [colsFrom] at h; subst h; obtain ⟨b, rfl, _⟩ := h2; simp [Col.at, emb, cellS, h1, V.one, WF]
    | succ j =>
      have hrest : (colsFrom w a sz ks (j0 + 1))[j]? = some c := by cases k <;> simpa [colsFrom] using h
      have := colsFrom_at (E := E) (N := N) (ks := ks) (j0 := j0 + 1) hrest (fun j' k' hj' => by
        have := hk (j' + 1) k' (by simpa using hj')
        rwa [show j0 + (j' + 1) = j0 + 1 + j' by omega] at this)
      rwa [show j0 + 1 + j = j0 + (j + 1) by omega] at this

/-- A slice of structs of plain cells. -/
theorem open_rows {n : Nat} {t e : TypeId} {ks : List CK} {v : Value} {d : DataW H} {p : List MemPlace} {r : Reach} {b0 : Nat} (ht : P.underlying t = some (.slice e)) (hk : flatK P n e = some ks) (hC : P.cellsOf e = ks.length)
    (hv : Value.okWide P w r b0 t v) (h : DataW.Trod enc P w base (fun _ => true) held t v d p) :
    v = .slice none 0 0 ∨ ∃ (a : Addr) (len cap : Nat), v = .slice (some a) len cap ∧ len ≤ cap ∧ cap ≤ maxLen ∧ a.spot = none ∧ a.block < w.heap.size ∧
      ∀ i, i < cap → ∀ j k, ks[j]? = some k → ∃ u, w.cell? (a.add (i * ks.length + j)) = some u ∧ CKok k u := by
  obtain ⟨fuel, hf⟩ := h
  have hv' : Cell.ok P w r b0 t v := by simpa [Value.okWide, ht, Cell.okWide] using hv
  have hcells : v.cells.toList = [v] := by
    cases v <;> simp_all [Cell.ok, Value.cells]
  rw [hcells] at hf
  rcases Go.Deep.open_slice ht hf with ⟨h0, _⟩ | ⟨a, len, cap, m, n', D, Pl, hcs, _, hl, hm, hmm, _, hi⟩
  · injection h0 with h0; exact .inl h0
  · injection hcs with hcs
    subst hcs
    simp only [Cell.ok, ht] at hv'
    obtain ⟨_, _, _, hsp, row, cells, hshape, _⟩ := hv'
    refine .inr ⟨a, len, cap, rfl, hl, hm, hsp, ?_, ?_⟩
    · unfold World.shape? at hshape
      cases hx : w.heap[a.block]? with
      | none => rw [hx] at hshape; cases hshape
      | some o => exact (Array.getElem?_eq_some_iff.1 hx).1
    · intro i hic j k hj
      obtain ⟨cs', hc, ht'⟩ := hi i (by rw [hmm]; simpa using hic)
      have g := flat_trod hk ht'
      obtain ⟨_, _, hat⟩ := World.cells?_some hc
      obtain ⟨u, h1, h2⟩ := CKs_get g hj
      refine ⟨u, ?_, h2⟩
      have hjl : j < P.cellsOf e := by rw [hC]; exact (List.getElem?_eq_some_iff.1 hj).1
      have := hat j hjl
      rw [Go.Deep.add_add, hC, h1] at this
      exact this

/-- Where an argument's row lies. -/
def locOf (a : Addr) (sz cap : Nat) : Loc := ⟨a.block, a.off, sz, cap, true⟩
theorem addr_row {a : Addr} {sz cap i j : Nat} (hs : a.spot = none) : a.add (i * sz + j) = (locOf a sz cap).at i j := by
  unfold Addr.add Loc.at locOf
  split
  · rename_i h
    have h0 : i * sz = 0 ∧ j = 0 := by omega
    cases a; simp_all
  · simp [Nat.add_assoc]
theorem rows_rep {E : Env} {N : Nat} {a : Addr} {cap n : Nat} {ks : List CK} {e : TypeId} (he : e < 1000000) (hs : a.spot = none) (hb : a.block < w.heap.size) (hn : n ≤ cap)
    (hc : ∀ i, i < cap → ∀ j k, ks[j]? = some k → ∃ u, w.cell? (a.add (i * ks.length + j)) = some u ∧ CKok k u) :
    RepOb E N w (locOf a ks.length cap) (.mem false e [] n (colsFrom w a ks.length ks 0)) := by
  refine ⟨fun _ => hb, by simp [locOf, colsFrom_length], fun j v hj => (by simp at hj), fun i hi j c hj => ?_, fun ho => (by cases ho), fun h => (by cases h), fun _ h => absurd h (Nat.not_le.2 he)⟩
  have := colsFrom_at (i := i) (E := E) (N := N) hj (fun j' k hj' => by rw [Nat.zero_add]; exact hc i (by omega) j' k hj')
  rw [Nat.zero_add, addr_row (cap := cap) hs] at this
  simpa using this

/-! ### The row's end -/
theorem ext_below {E E' : Env} {G G' : List Ob} {W W' : World} (x : Ext E G W E' G' W') (hno : ∀ o ∈ G, o.own = false) : Below W.heap.size W W' :=
  ⟨x.os, x.tape, x.output, x.size, fun k hk => x.frame k hk (by
    rintro ⟨l, o, h1, h2, _, _⟩
    rw [hno o (List.mem_of_getElem? h1)] at h2; cases h2)⟩
theorem trodAll_below {W W' : World} (hl : laidOutB P = true) (hb : Below W.heap.size W W') : ∀ {ts : List TypeId} {vs : List Value} {ds : List (DataW H)} {ps : List MemPlace}, (∀ t ∈ ts, P.readableRec t = true ∧ t < P.types.size) →
    DataW.TrodAll enc P W 0 (fun _ => true) true ts vs ds ps → (∀ x ∈ ps, x.block < W.heap.size) → ∀ sp : Nat → Bool, (∀ p ∈ ps, sp p.block = true) → DataW.TrodAll enc P W' 0 sp true ts vs ds ps
  | [], vs, ds, ps, _, h, _, sp, _ => by
    obtain ⟨rfl, rfl, rfl⟩ := trodAll_nil h
    exact rfl
  | t :: ts, vs, ds, ps, ht, h, hlt, sp, hsp => by
    obtain ⟨v, vs', d, ds', p, q, rfl, rfl, rfl, h1, h2⟩ := trodAll_cons h
    obtain ⟨r1, r2⟩ := ht t (List.mem_cons_self ..)
    refine ⟨p, q, ?_, ?_, rfl⟩
    · exact WideElems.Trod_stays hl r1 r2 h1 (fun x hx => hb.same (hlt x (List.mem_append_left _ hx))) (fun x hx => hsp x (List.mem_append_left _ hx))
    · exact trodAll_below hl hb (fun u hu => ht u (List.mem_cons_of_mem _ hu)) h2 (fun x hx => hlt x (List.mem_append_right _ hx)) sp (fun x hx => hsp x (List.mem_append_right _ hx))
/-- A law that answers true and turns nothing that was there. -/
theorem post_true {f : Func} {s : ChangeSpec} {tb : TypeId} {W W' : World} {args : Array Value} {ds : List (DataW H)} {before : List MemPlace}
    (hl : laidOutB P = true) (hts : f.params.toList.all (fun t => P.readableRec t && decide (t < P.types.size)) = true) (hres : f.resultTypes = #[tb]) (htb : P.underlying tb = some .bool) (hvars : s.vars = [])
    (hW : DataW.Whole enc P f.params.toList s.vars false W args.toList ds [] before) (hfn : s.fn H ds = { results := [.lit (.bool true)], args := ds }) (hb : Below W.heap.size W W') :
    s.post enc P f false true false false W args (.bool true) W' := by
  have hlt : ∀ p ∈ before, p.block < W.heap.size := fun p hp => hW.lt p hp
  have hW2 := hW
  obtain ⟨p, q, hA, hV, rfl, hz, _⟩ := hW
  have hq : q = [] := by
    rw [hvars] at hV; exact hV
  subst hq
  rw [List.append_nil] at hlt hW2
  have hts' : ∀ t ∈ f.params.toList, P.readableRec t = true ∧ t < P.types.size := fun t ht => by
    have := List.all_eq_true.1 hts t ht
    simpa using this
  have hargs : ∀ sp : Nat → Bool, (∀ x ∈ p, sp x.block = true) → DataW.TrodAll enc P W' 0 sp true f.params.toList args.toList ds p := fun sp hsp => trodAll_below hl hb hts' hA hlt sp hsp
  have hr : (Value.bool true).resultList f.resultTypes.size = [.bool true] := by rw [hres]; rfl
  have hresd : ∀ (b : Nat) (sp : Nat → Bool) (hd : Bool), DataW.TrodAll enc P W' b sp hd f.resultTypes.toList ((Value.bool true).resultList f.resultTypes.size) [.lit (.bool true)] [] := fun b sp hd => by
    rw [hr, hres]; exact trodAll_mk1 (shut_bool htb _)
  have hold : ∀ x ∈ p, (fun b => decide (b < W.heap.size)) x.block = true := fun x hx => by simpa using hlt x hx
  have hfn' : s.fn H (ds ++ []) = { results := [.lit (.bool true)], args := ds } := by rw [List.append_nil]; exact hfn
  have hvs : ∀ sp : Nat → Bool, DataW.TrodVars enc P W' sp s.vars (s.fn H (ds ++ [])).vars [] := fun sp => by rw [hvars, hfn']; exact rfl
  refine ⟨ds, [], p, [], p, [], hW2, by rw [hfn']; exact hresd _ _ _, by rw [hfn']; exact hargs _ hold, hvs _, World.keptBut_mono (fun x hx => ⟨hx, .inr (.inl hx)⟩) (hb.frame (· ∈ p)), fun hag => by cases hag⟩
end
end Go.Proofs.YtonohiifmepjfaaDoor.Ev
