/-
  Own framework, part 5: slices of slices, values put together, the quiet built-ins; one function for all quiet operations.
-/
import Derived.Test.YtonohiifmepjfaaDoorEv4
namespace Go.Proofs.YtonohiifmepjfaaDoor.Ev
open Go Go.RowKit

section
variable {P : Program} {E : Env} {H : List Ob} {w : World}

def optInt : Option V → Option (Option Int)
  | none => some none
  | some (.int _ n) => some (some n)
  | _ => none

def bnd : Option Int → Nat → Int
  | some n, _ => n
  | none, d => (d : Int)

/-- x[lo:hi] of a slice or a string. -/
def sliceV (P : Program) (t : TypeId) (H : List Ob) (x : V) (lo hi : Option V) : QR :=
  match optInt lo with
  | some lo' => match optInt hi with
    | some hi' => match P.underlying t with
      | some (.slice el) => match szOf P el with
        | some s => match x with
          | .slc a cap l st len => match H[l]? with
            | some (.mem _ _ _ _ cols) => match decide (cols.length = s) with
              | true => qif (0 ≤ bnd lo' 0 ∧ bnd lo' 0 ≤ bnd hi' len ∧ bnd hi' len ≤ len)
                (.slc (if cap = (bnd lo' 0).toNat then a else a.map fun a => a.add ((bnd lo' 0).toNat * s)) (cap - (bnd lo' 0).toNat) l (st + (bnd lo' 0).toNat) ((bnd hi' len).toNat - (bnd lo' 0).toNat))
              | false => none
            | _ => none
          | .nils => qif (bnd lo' 0 = 0 ∧ bnd hi' 0 = 0) .nils
          | _ => none
        | none => none
      | some .string => match x with
        | .str b => qif (0 ≤ bnd lo' 0 ∧ bnd lo' 0 ≤ bnd hi' b.size ∧ bnd hi' b.size ≤ b.size) (.str (b.extract (bnd lo' 0).toNat (bnd hi' b.size).toNat))
        | _ => none
      | _ => none
    | none => none
  | none => none

theorem sliceBound_ok {k : IntKind} {i : Int} {y : Nat} {code : BoundsCode} (h : 0 ≤ i ∧ i ≤ y) : (Instr.sliceBound (.int k i) y code).run P w = .ok i.toNat w := by
  simp [Instr.sliceBound, asIntOf, h]

theorem optInt_some {x : Option V} {r : Option Int} (h : optInt x = some r) : (x = none ∧ r = none) ∨ (∃ k n, x = some (.int k n) ∧ r = some n) := by
  unfold optInt at h
  split at h <;> simp at h
  · exact .inl ⟨rfl, h.symm⟩
  · subst h; exact .inr ⟨_, _, rfl, rfl⟩

theorem sliceBounds_ok {len cap : Nat} {lo hi : Option V} {lo' hi' : Option Int} {b : Bool} (hl : optInt lo = some lo') (hh : optInt hi = some hi') (hc : len ≤ cap)
    (h : 0 ≤ bnd lo' 0 ∧ bnd lo' 0 ≤ bnd hi' len ∧ bnd hi' len ≤ len) :
    (Instr.sliceBounds b len cap (lo.map (emb E)) (hi.map (emb E)) none).run P w = .ok ((bnd lo' 0).toNat, (bnd hi' len).toNat, cap) w := by
  rcases optInt_some hl with ⟨rfl, rfl⟩ | ⟨k1, n1, rfl, rfl⟩ <;> rcases optInt_some hh with ⟨rfl, rfl⟩ | ⟨k2, n2, rfl, rfl⟩ <;> simp only [bnd] at h ⊢
  · simp [Instr.sliceBounds]
  · simp [Instr.sliceBounds, emb, sliceBound_ok (P := P) (w := w) (k := k2) (i := n2) (y := cap) (by omega)]
  · simp [Instr.sliceBounds, emb, sliceBound_ok (P := P) (w := w) (k := k1) (i := n1) (y := len) (by omega)]
  · simp [Instr.sliceBounds, emb, sliceBound_ok (P := P) (w := w) (k := k2) (i := n2) (y := cap) (by omega), sliceBound_ok (P := P) (w := w) (k := k1) (i := n1) (y := n2.toNat) (by omega)]

theorem slice_sound {t : TypeId} {x : V} {lo hi : Option V} (hr : Rep E H w) (hx : WF E H.length x) : QOk P E H w (Instr.sliceAt t (emb E x) (lo.map (emb E)) (hi.map (emb E)) none) (sliceV P t H x lo hi) := by
  intro vc v h hc
  unfold sliceV at h
  split at h
  · rename_i lo' hlo
    split at h
    · rename_i hi' hhi
      split at h
      · rename_i el hu
        split at h
        · rename_i s hs
          split at h
          · rename_i a cap l st len
            split at h
            · rename_i own ty pre n cols hl
              split at h
              · rename_i hst
                simp at h hst
                obtain ⟨rfl, rfl⟩ := h
                have hb : 0 ≤ bnd lo' 0 ∧ bnd lo' 0 ≤ bnd hi' len ∧ bnd hi' len ≤ len := hc
                simp only [WF] at hx
                obtain ⟨h1, h2, h3, h4⟩ := hx
                have hstr : (E l).stride = cols.length := (hr.ob l _ hl).2.1
                constructor
                · simp only [Instr.sliceAt, Sem.run_bind, run_underlying hu, Result.andThen_ok, Instr.slice, emb, sliceBounds_ok (P := P) (w := w) (E := E) (b := true) hlo hhi h2 hb, run_sizeOf' hs, Sem.run_pure]
                · simp only [WF]
                  refine ⟨h1, by omega, by omega, fun hpos => ?_⟩
                  obtain ⟨h5, h6⟩ := h4 (by omega)
                  refine ⟨?_, h6⟩
                  rw [if_neg (by omega), h5, Option.map_some, at_add]
                  unfold Loc.at
                  congr 2
                  rw [hstr, hst, Nat.add_mul]; omega
              · simp at h
            · simp at h
          · simp at h
            obtain ⟨rfl, rfl⟩ := h
            obtain ⟨e1, e2⟩ : bnd lo' 0 = 0 ∧ bnd hi' 0 = 0 := hc
            have := sliceBounds_ok (P := P) (w := w) (E := E) (b := true) (len := 0) (cap := 0) hlo hhi (Nat.le_refl _) (by omega)
            refine ⟨?_, by simp [WF]⟩
            simp only [Instr.sliceAt, Sem.run_bind, run_underlying hu, Result.andThen_ok, Instr.slice, emb, this, run_sizeOf' hs, Sem.run_pure, e1, e2]
            simp
          · simp at h
        · simp at h
      · rename_i hu
        split at h
        · rename_i b
          simp at h
          obtain ⟨rfl, rfl⟩ := h
          have hb : 0 ≤ bnd lo' 0 ∧ bnd lo' 0 ≤ bnd hi' b.size ∧ bnd hi' b.size ≤ b.size := hc
          refine ⟨?_, by simp [WF]⟩
          simp [Instr.sliceAt, run_underlying hu, Instr.slice, emb, sliceBounds_ok (P := P) (w := w) (E := E) (b := false) hlo hhi (Nat.le_refl _) hb]
        · simp at h
      · simp at h
    · simp at h
  · simp at h

/-! ### Structs and arrays put together -/
def V.parts : V → List V
  | .agg cs => cs
  | .raw v => v.cells.toList.map .raw
  | v => [v]

def splice (cs : List V) (off : Nat) : List V → List V
  | [] => cs
  | v :: vs => splice (cs.set off v) (off + 1) vs

def fillV (place : Nat → Option (Nat × Nat)) (cells : List V) : List (Nat × V) → Option (List V)
  | [] => some cells
  | (i, v) :: rest => match place i with
    | some (off, size) => match decide (v.parts.length = size ∧ off + size ≤ cells.length) with
      | true => fillV place (splice cells off v.parts) rest
      | false => none
    | none => none

theorem emb_parts {v : V} : (emb E v).cells = (embs E v.parts).toArray := by
  cases v <;> simp [emb, embs, V.parts, Value.cells]
  rename_i v
  rw [embs_eq]
  apply Array.ext'
  simp only [Value.cells, List.map_map]
  have : (emb E ∘ V.raw) = id := by funext x; simp [emb]
  rw [this]; simp

theorem splice_length : ∀ {vs cs : List V} {off : Nat}, (splice cs off vs).length = cs.length
  | [], _, _ => rfl
  | v :: vs, cs, off => by simp [splice, splice_length]

theorem splice_emb : ∀ {vs cs : List V} {off : Nat}, (embs E (splice cs off vs)).toArray = ((embs E vs).zipIdx.foldl (fun cs (x : Value × Nat) => cs.setIfInBounds (off + x.2) x.1) (embs E cs).toArray) := by
  intro vs cs off
  have key : ∀ (vs cs : List V) (off k : Nat), (embs E (splice cs (off + k) vs)).toArray = (((embs E vs).zipIdx k).foldl (fun cs (x : Value × Nat) => cs.setIfInBounds (off + x.2) x.1) (embs E cs).toArray) := by
    intro vs
    induction vs with
    | nil => intro cs off k; simp [splice, embs]
    | cons v vs ih =>
      intro cs off k
      simp only [splice, embs, List.zipIdx_cons, List.foldl_cons]
      have : (embs E cs).toArray.setIfInBounds (off + k) (emb E v) = (embs E (cs.set (off + k) v)).toArray := by
        apply Array.ext'
        simp [embs_eq, List.map_set]
      rw [this, ← ih, Nat.add_assoc]
  exact key vs cs off 0

theorem fill_sound {place : Nat → Option (Nat × Nat)} : ∀ {ps : List (Nat × V)} {cells out : List V}, fillV place cells ps = some out →
    Instr.fill place (embs E cells).toArray (ps.map fun (i, v) => (i, emb E v)) = some (embs E out).toArray
  | [], cells, out, h => by simp [fillV] at h; subst h; simp [Instr.fill]
  | (i, v) :: ps, cells, out, h => by
    simp only [fillV] at h
    split at h
    · rename_i off size hp
      split at h
      · rename_i hd
        simp only [decide_eq_true_eq] at hd
        have ih := fill_sound h
        rw [← ih, splice_emb]
        have hsz : (emb E v).cells.size = size := by rw [emb_parts]; simp [embs_eq, hd.1]
        have hcs : (embs E cells).toArray.size = cells.length := by simp [embs_eq]
        simp only [List.map_cons, Instr.fill, hp]
        rw [if_neg (by rw [hsz, hcs]; simp; omega), emb_parts]
        congr 1
        simp
      · simp at h
    · simp at h

theorem splice_wf {N : Nat} : ∀ {vs cs : List V} {off : Nat}, WFs E N cs → WFs E N vs → WFs E N (splice cs off vs)
  | [], _, _, hw, _ => hw
  | v :: vs, cs, off, hw, hv => by
    simp only [WFs] at hv
    simp only [splice]
    refine splice_wf (WFs_iff.2 fun x hx => ?_) hv.2
    rcases List.mem_or_eq_of_mem_set hx with h | h
    · exact WFs_iff.1 hw x h
    · subst h; exact hv.1

theorem parts_wf {N : Nat} {v : V} (h : WF E N v) : WFs E N v.parts := by
  cases v <;> simp_all [V.parts, WF, WFs]
  rw [WFs_iff]
  intro x hx
  obtain ⟨y, _, rfl⟩ := List.mem_map.1 hx
  simp [WF]

theorem fill_wf {N : Nat} {place : Nat → Option (Nat × Nat)} : ∀ {ps : List (Nat × V)} {cells out : List V}, fillV place cells ps = some out → WFs E N cells → (∀ p ∈ ps, WF E N p.2) → WFs E N out
  | [], cells, out, h, hw, _ => by simp [fillV] at h; subst h; exact hw
  | (i, v) :: ps, cells, out, h, hw, hp => by
    simp only [fillV] at h
    split at h
    · split at h
      · exact fill_wf h (splice_wf hw (parts_wf (hp (i, v) (List.mem_cons_self ..)))) (fun p hp' => hp p (List.mem_cons_of_mem _ hp'))
      · simp at h
    · simp at h

/-- Where a struct's fields lie. -/
def placesV (P : Program) : List Field → Option (List (Nat × Nat))
  | [] => some []
  | f :: fs => match szOf P f.type with
    | some s => match placesV P fs with
      | some ps => some ((f.offset, s) :: ps)
      | none => none
    | none => none

theorem places_sound : ∀ {fs : List Field} {ps : List (Nat × Nat)}, placesV P fs = some ps →
    (fs.mapM fun f => do pure (f.offset, ← sizeOf f.type) : Sem (List (Nat × Nat))).run P w = .ok ps w
  | [], ps, h => by simp [placesV] at h; subst h; simp
  | f :: fs, ps, h => by
    simp only [placesV] at h
    split at h
    · rename_i s hs
      split at h
      · rename_i qs hq
        simp at h; subst h
        have ih := places_sound hq
        simp only [List.mapM_cons, Sem.run_bind, run_sizeOf' hs, Result.andThen_ok, Sem.run_pure, ih]
      · simp at h
    · simp at h

def buildV (P : Program) (t : TypeId) (ps : List (Nat × V)) : QR :=
  match zeroV P t with
  | some z => match P.underlying t with
    | some (.struct fs) => match placesV P fs.toList with
      | some pl => match fillV (fun i => pl[i]?) z.parts ps with
        | some cs => qok (.agg cs)
        | none => none
      | none => none
    | some (.array _ el) => match szOf P el with
      | some s => match fillV (fun i => some (i * s, s)) z.parts ps with
        | some cs => qok (.agg cs)
        | none => none
      | none => none
    | _ => none
  | none => none

theorem build_sound {t : TypeId} {ps : List (Nat × V)} (hp : ∀ p ∈ ps, WF E H.length p.2) :
    QOk P E H w (Instr.build t (ps.map fun (i, v) => (i, emb E v)).toArray) (buildV P t ps) := by
  intro vc v h hc
  unfold buildV at h
  split at h
  · rename_i z hz
    obtain ⟨z1, z2⟩ := run_zeroValue' (P := P) (E := E) (w := w) (N := H.length) hz
    have zw : WFs E H.length z.parts := parts_wf z2
    split at h
    · rename_i fs hu
      split at h
      · rename_i pl hpl
        split at h
        · rename_i cs hf
          simp at h
          obtain ⟨rfl, rfl⟩ := h
          have h1 := fill_sound (E := E) hf
          have h2 := fill_wf (E := E) hf zw hp
          refine ⟨?_, by simpa [WF] using h2⟩
          have hm : (fs.mapM (fun f => do pure (f.offset, ← sizeOf f.type)) : Sem (Array (Nat × Nat))).run P w = .ok pl.toArray w := by
            rw [Array.mapM_eq_mapM_toList, Sem.run_map, places_sound hpl, Result.andThen_ok]
          simp only [Instr.build, Sem.run_bind, z1, Result.andThen_ok, run_underlying hu, hm, emb_parts]
          have h1' : Instr.fill (fun x => pl.toArray[x]?) (embs E z.parts).toArray (ps.map fun (i, v) => (i, emb E v)) = some (embs E cs).toArray := by
            simpa using h1
          simp only [h1', Sem.run_pure, emb]
        · simp at h
      · simp at h
    · rename_i n el hu
      split at h
      · rename_i s hs
        split at h
        · rename_i cs hf
          simp at h
          obtain ⟨rfl, rfl⟩ := h
          have h1 := fill_sound (E := E) hf
          have h2 := fill_wf (E := E) hf zw hp
          refine ⟨?_, by simpa [WF] using h2⟩
          simp only [Instr.build, Sem.run_bind, z1, Result.andThen_ok, run_underlying hu, emb_parts, Sem.run_pure, run_sizeOf' hs, h1, emb]
        · simp at h
      · simp at h
    · simp at h
  · simp at h

/-! ### Built-ins -/
def lenV (P : Program) (t : TypeId) (x : V) : QR :=
  match P.underlying t with
  | some .string => match x with
    | .str s => qok (.int .i64 s.size)
    | _ => none
  | some (.array n _) => qok (.int .i64 n)
  | some (.slice _) => match x with
    | .slc _ _ _ _ len => qok (.int .i64 len)
    | .nils => qok (.int .i64 0)
    | _ => none
  | _ => none

theorem len_sound {t ty : TypeId} {x : V} : QOk P E H w (Builtin.len_ #[t] ty #[emb E x]) (lenV P t x) := by
  intro vc v h hc
  unfold lenV at h
  split at h
  · rename_i hu
    split at h <;> simp at h
    obtain ⟨rfl, rfl⟩ := h
    simp [Builtin.len_, run_underlying hu, emb, goInt, WF]
  · rename_i n e hu
    simp at h
    obtain ⟨rfl, rfl⟩ := h
    refine ⟨?_, by simp [WF]⟩
    cases x <;> simp [Builtin.len_, run_underlying hu, emb, goInt]
  · rename_i e hu
    split at h <;> simp at h <;> obtain ⟨rfl, rfl⟩ := h <;> simp [Builtin.len_, run_underlying hu, emb, goInt, WF]
  · simp at h

def maxV (x y : V) : QR :=
  match x, y with
  | .int k a, .int _ b => qok (.int k (if b > a then b else a))
  | _, _ => none
def minV (x y : V) : QR :=
  match x, y with
  | .int k a, .int _ b => qok (.int k (if b < a then b else a))
  | _, _ => none

theorem max_sound {ts : Array TypeId} {ty : TypeId} {x y : V} : QOk P E H w (Builtin.max_ ts ty #[emb E x, emb E y]) (maxV x y) := by
  intro vc v h hc
  unfold maxV at h
  split at h <;> simp at h
  obtain ⟨rfl, rfl⟩ := h
  simp [Builtin.max_, Builtin.max2, emb, WF]
theorem min_sound {ts : Array TypeId} {ty : TypeId} {x y : V} : QOk P E H w (Builtin.min_ ts ty #[emb E x, emb E y]) (minV x y) := by
  intro vc v h hc
  unfold minV at h
  split at h <;> simp at h
  obtain ⟨rfl, rfl⟩ := h
  simp [Builtin.min_, Builtin.min2, emb, WF]

/-! ### All of them -/
def LAct.evs (a : LAct) : List Operand → Option (List V)
  | [] => some []
  | x :: xs => match a.ev x with
    | some v => match a.evs xs with
      | some vs => some (v :: vs)
      | none => none
    | none => none

def LAct.evp (a : LAct) : List (Nat × Operand) → Option (List (Nat × V))
  | [] => some []
  | (i, x) :: xs => match a.ev x with
    | some v => match a.evp xs with
      | some vs => some ((i, v) :: vs)
      | none => none
    | none => none

def LAct.evo (a : LAct) : Option Operand → Option (Option V)
  | none => some none
  | some x => match a.ev x with
    | some v => some (some v)
    | none => none

theorem evs_eval {N : Nat} {a : LAct} (ha : ActOk E N a) : ∀ {xs : List Operand} {vs : List V}, a.evs xs = some vs → xs.map (a.conc E).eval = embs E vs ∧ WFs E N vs
  | [], vs, h => by simp [LAct.evs] at h; subst h; simp [embs, WFs]
  | x :: xs, vs, h => by
    simp only [LAct.evs] at h
    split at h
    · rename_i v hv
      split at h
      · rename_i us hu
        simp at h; subst h
        obtain ⟨a1, a2⟩ := ev_eval ha hv
        obtain ⟨b1, b2⟩ := evs_eval ha hu
        exact ⟨by simp only [List.map_cons, a1, b1, embs], a2, b2⟩
      · simp at h
    · simp at h

theorem evp_eval {N : Nat} {a : LAct} (ha : ActOk E N a) : ∀ {xs : List (Nat × Operand)} {vs : List (Nat × V)}, a.evp xs = some vs →
    xs.map (fun (i, x) => (i, (a.conc E).eval x)) = vs.map (fun (i, v) => (i, emb E v)) ∧ ∀ p ∈ vs, WF E N p.2
  | [], vs, h => by simp [LAct.evp] at h; subst h; simp
  | (i, x) :: xs, vs, h => by
    simp only [LAct.evp] at h
    split at h
    · rename_i v hv
      split at h
      · rename_i us hu
        simp at h; subst h
        obtain ⟨a1, a2⟩ := ev_eval ha hv
        obtain ⟨b1, b2⟩ := evp_eval ha hu
        refine ⟨by simp only [List.map_cons, a1, b1], fun p hp => ?_⟩
        rcases List.mem_cons.1 hp with rfl | hp
        · exact a2
        · exact b2 p hp
      · simp at h
    · simp at h

theorem evo_eval {N : Nat} {a : LAct} (ha : ActOk E N a) {x : Option Operand} {v : Option V} (h : a.evo x = some v) : x.map (a.conc E).eval = v.map (emb E) := by
  unfold LAct.evo at h
  split at h
  · simp at h; subst h; rfl
  · rename_i y
    split at h
    · rename_i u hu
      simp at h; subst h
      simp [(ev_eval ha hu).1]
    · simp at h

def qV (P : Program) (op : Op) (a : LAct) (H : List Ob) : QR :=
  match op with
  | .move x => match a.ev x with
    | some v => qok v
    | none => none
  | .assign x => match a.ev x with
    | some v => qok v
    | none => none
  | .pick c x y => match a.ev c with
    | some c => match a.ev x with
      | some x => match a.ev y with
        | some y => pickV c x y
        | none => none
      | none => none
    | none => none
  | .nilCheck x => match a.ev x with
    | some v => nilCheckV v
    | none => none
  | .binOp op t x y _ => match a.ev x with
    | some u => match a.ev y with
      | some v => binV P op t x y u v
      | none => none
    | none => none
  | .unOp op _ x => match a.ev x with
    | some v => unV op v
    | none => none
  | .convert s d x => match P.underlying s with
    | some _ => match a.ev x with
      | some v => convV P d v
      | none => none
    | none => none
  | .makeInterface t x => match a.ev x with
    | some v => ifaceV P t v
    | none => none
  | .makeFunc fn f c => match a.evs f.toList with
    | some f => match a.evs c.toList with
      | some c => qok (.func fn f c)
      | none => none
    | none => none
  | .load t x => match a.ev x with
    | some v => loadV P t H v
    | none => none
  | .fieldAddr s x f => match a.ev x with
    | some v => fieldAddrV P s v f
    | none => none
  | .field t x f => match a.ev x with
    | some v => fieldV P t v f
    | none => none
  | .indexAddr t x i => match a.ev x with
    | some v => match a.ev i with
      | some i => indexAddrV P t H v i
      | none => none
    | none => none
  | .index t x i => match a.ev x with
    | some v => match a.ev i with
      | some i => indexV P t v i
      | none => none
    | none => none
  | .extract x i => match a.ev x with
    | some v => extractV v i
    | none => none
  | .slice t x lo hi none => match a.ev x with
    | some v => match a.evo lo with
      | some lo => match a.evo hi with
        | some hi => sliceV P t H v lo hi
        | none => none
      | none => none
    | none => none
  | .build t ps => match a.evp ps.toList with
    | some ps => buildV P t ps
    | none => none
  | .typeAssert x _ t ok => match a.ev x with
    | some v => typeAssertV P v t ok
    | none => none
  | .call { callee := .builtin .len, args, argTypes } => match args.toList with
    | [x] => match argTypes.toList with
      | [t] => match a.ev x with
        | some v => lenV P t v
        | none => none
      | _ => none
    | _ => none
  | .call { callee := .builtin .max, args, argTypes := _ } => match args.toList with
    | [x, y] => match a.ev x with
      | some u => match a.ev y with
        | some v => maxV u v
        | none => none
      | none => none
    | _ => none
  | .call { callee := .builtin .min, args, argTypes := _ } => match args.toList with
    | [x, y] => match a.ev x with
      | some u => match a.ev y with
        | some v => minV u v
        | none => none
      | none => none
    | _ => none
  | _ => none

theorem run_value {s : Sem Value} {r : QR} (h : QOk P E H w s r) {vc : Cond} {v : V} (hr : r = some (vc, v)) (hc : vc.holds) :
    (do pure (Next.value (← s)) : Sem Next).run P w = .ok (.value (emb E v)) w ∧ WF E H.length v := by
  obtain ⟨h1, h2⟩ := h vc v hr hc
  exact ⟨by simp [h1], h2⟩

theorem nilCheck_sound {x : V} (hx : WF E H.length x) : ∀ vc v, nilCheckV x = some (vc, v) → vc.holds →
    (match emb E x with
    | .pointer none | .nilIface | .nilFunc => (runtimePanic .nilDeref : Sem Next)
    | .func (.method name) first captured =>
      match (first[0]? : Option Value) with
      | some .nilIface => runtimePanic .nilDeref
      | some (.iface t w) => do
        if (← nilAhead ((← program).types.size + Made.depth) t w name) != some false then
          unsupported (.noEntry "op/nilCheck.the method's receiver behind this interface value is a nil pointer, or cannot be seen to be none, and the arguments act or may panic (ledger 612)")
        pure (.value (.func (.method name) first captured))
      | _ => pure (.value (.func (.method name) first captured))
    | x => pure (.value x)).run P w = .ok (.value (emb E v)) w ∧ WF E H.length v := by
  intro vc v h hc
  unfold nilCheckV at h
  split at h <;> simp at h <;> obtain ⟨rfl, rfl⟩ := h <;> exact ⟨by simp [emb], hx⟩

theorem q_sound {o : Oper} {a : LAct} {vc : Cond} {v : V} (hr : Rep E H w) (ha : ActOk E H.length a) (h : qV P o.op a H = some (vc, v)) (hc : vc.holds) :
    (execOp (a.conc E).eval o).run P w = .ok (.value (emb E v)) w ∧ WF E H.length v := by
  unfold qV at h
  unfold execOp
  split at h
  case h_1 x hop =>
    rw [hop]; simp only
    split at h <;> simp at h
    rename_i u hu; obtain ⟨rfl, rfl⟩ := h; obtain ⟨e1, e2⟩ := ev_eval ha hu
    exact ⟨by simp [e1], e2⟩
  case h_2 x hop =>
    rw [hop]; simp only
    split at h <;> simp at h
    rename_i u hu; obtain ⟨rfl, rfl⟩ := h; obtain ⟨e1, e2⟩ := ev_eval ha hu
    exact ⟨by simp [e1], e2⟩
  case h_3 c x y hop =>
    rw [hop]; simp only
    split at h <;> try (simp at h; done)
    rename_i c' hc'
    split at h <;> try (simp at h; done)
    rename_i x' hx'
    split at h <;> try (simp at h; done)
    rename_i y' hy'
    obtain ⟨c1, c2⟩ := ev_eval ha hc'; obtain ⟨x1, x2⟩ := ev_eval ha hx'; obtain ⟨y1, y2⟩ := ev_eval ha hy'
    unfold pickV at h
    split at h <;> try (simp at h; done)
    rename_i t
    split at h
    · rename_i bx by'
      simp at h
      obtain ⟨rfl, rfl⟩ := h
      refine ⟨?_, by simp [WF]⟩
      simp only [emb] at c1 x1 y1
      cases t <;> simp [c1, x1, y1, emb, asBool]
    · cases t <;> simp at h <;> obtain ⟨rfl, rfl⟩ := h
      · exact ⟨by simp [c1, y1, emb, asBool], y2⟩
      · exact ⟨by simp [c1, x1, emb, asBool], x2⟩
  case h_4 x hop =>
    rw [hop]; simp only
    split at h <;> try (simp at h; done)
    rename_i u hu; obtain ⟨e1, e2⟩ := ev_eval ha hu
    rw [e1]
    exact nilCheck_sound e2 vc v h hc
  case h_5 op t x y yt hop =>
    rw [hop]; simp only
    split at h <;> try (simp at h; done)
    rename_i u hu
    split at h <;> try (simp at h; done)
    rename_i u' hu'
    obtain ⟨x1, x2⟩ := ev_eval ha hu; obtain ⟨y1, y2⟩ := ev_eval ha hu'
    rw [x1, y1]
    exact run_value (bin_sound x2 y2) h hc
  case h_6 op t x hop =>
    rw [hop]; simp only
    split at h <;> try (simp at h; done)
    rename_i u hu; obtain ⟨e1, e2⟩ := ev_eval ha hu
    rw [e1]
    exact run_value un_sound h hc
  case h_7 s d x hop =>
    rw [hop]; simp only
    split at h <;> try (simp at h; done)
    rename_i ds hs
    split at h <;> try (simp at h; done)
    rename_i u hu; obtain ⟨e1, e2⟩ := ev_eval ha hu
    rw [e1]
    exact run_value (conv_sound (by rw [hs]; rfl)) h hc
  case h_8 t x hop =>
    rw [hop]; simp only
    split at h <;> try (simp at h; done)
    rename_i u hu; obtain ⟨e1, e2⟩ := ev_eval ha hu
    rw [e1]
    exact run_value (iface_sound e2) h hc
  case h_9 fn f c hop =>
    rw [hop]; simp only
    split at h <;> try (simp at h; done)
    rename_i f' hf'
    split at h <;> try (simp at h; done)
    rename_i c' hc'
    simp at h; obtain ⟨rfl, rfl⟩ := h
    obtain ⟨f1, f2⟩ := evs_eval ha hf'; obtain ⟨c1, c2⟩ := evs_eval ha hc'
    refine ⟨?_, by simp [WF, f2, c2]⟩
    have e1 : f.map (a.conc E).eval = (embs E f').toArray := by apply Array.ext'; simp [← f1]
    have e2 : c.map (a.conc E).eval = (embs E c').toArray := by apply Array.ext'; simp [← c1]
    simp [Instr.makeFunc, e1, e2, emb]
  case h_10 t x hop =>
    rw [hop]; simp only
    split at h <;> try (simp at h; done)
    rename_i u hu; obtain ⟨e1, e2⟩ := ev_eval ha hu
    rw [e1]
    exact run_value (fun vc v h hc => loadV_sound hr h hc) h hc
  case h_11 s x f hop =>
    rw [hop]; simp only
    split at h <;> try (simp at h; done)
    rename_i u hu; obtain ⟨e1, e2⟩ := ev_eval ha hu
    rw [e1]
    exact run_value (fieldAddr_sound e2) h hc
  case h_12 t x f hop =>
    rw [hop]; simp only
    split at h <;> try (simp at h; done)
    rename_i u hu; obtain ⟨e1, e2⟩ := ev_eval ha hu
    rw [e1]
    exact run_value (field_sound e2) h hc
  case h_13 t x i hop =>
    rw [hop]; simp only
    split at h <;> try (simp at h; done)
    rename_i u hu
    split at h <;> try (simp at h; done)
    rename_i u' hu'
    obtain ⟨x1, x2⟩ := ev_eval ha hu; obtain ⟨y1, y2⟩ := ev_eval ha hu'
    rw [x1, y1]
    exact run_value (indexAddr_sound hr x2) h hc
  case h_14 t x i hop =>
    rw [hop]; simp only
    split at h <;> try (simp at h; done)
    rename_i u hu
    split at h <;> try (simp at h; done)
    rename_i u' hu'
    obtain ⟨x1, x2⟩ := ev_eval ha hu; obtain ⟨y1, y2⟩ := ev_eval ha hu'
    rw [x1, y1]
    exact run_value (index_sound x2) h hc
  case h_15 x i hop =>
    rw [hop]; simp only
    split at h <;> try (simp at h; done)
    rename_i u hu; obtain ⟨e1, e2⟩ := ev_eval ha hu
    rw [e1]
    exact run_value (extract_sound e2) h hc
  case h_16 t x lo hi hop =>
    rw [hop]; simp only
    split at h <;> try (simp at h; done)
    rename_i u hu
    split at h <;> try (simp at h; done)
    rename_i lo' hlo
    split at h <;> try (simp at h; done)
    rename_i hi' hhi
    obtain ⟨x1, x2⟩ := ev_eval ha hu
    rw [x1, evo_eval ha hlo, evo_eval ha hhi]
    exact run_value (slice_sound hr x2) h hc
  case h_17 t ps hop =>
    rw [hop]; simp only
    split at h <;> try (simp at h; done)
    rename_i ps' hps
    obtain ⟨p1, p2⟩ := evp_eval ha hps
    have e : ps.map (fun (i, x) => (i, (a.conc E).eval x)) = (ps'.map fun (i, v) => (i, emb E v)).toArray := by
      apply Array.ext'
      rw [← p1]; simp
    rw [e]
    exact run_value (build_sound p2) h hc
  case h_18 x xt t ok hop =>
    rw [hop]; simp only
    split at h <;> try (simp at h; done)
    rename_i u hu; obtain ⟨e1, e2⟩ := ev_eval ha hu
    rw [e1]
    exact run_value (typeAssert_sound e2) h hc
  case h_19 args ts hop =>
    rw [hop]; simp only
    split at h <;> try (simp at h; done)
    rename_i x hx
    split at h <;> try (simp at h; done)
    rename_i t ht
    split at h <;> try (simp at h; done)
    rename_i u hu; obtain ⟨e1, e2⟩ := ev_eval ha hu
    obtain rfl : args = #[x] := by apply Array.ext'; simpa using hx
    obtain rfl : ts = #[t] := by apply Array.ext'; simpa using ht
    simp only [resolve, Sem.run_bind, Sem.run_pure, Result.andThen_ok, invoke, builtin, List.map_toArray, List.map_cons, List.map_nil, e1]
    obtain ⟨r1, r2⟩ := len_sound (P := P) (E := E) (H := H) (w := w) (ty := o.type) vc v h hc
    exact ⟨by simp [r1], r2⟩
  case h_20 args ts hop =>
    rw [hop]; simp only
    split at h <;> try (simp at h; done)
    rename_i x y hx
    split at h <;> try (simp at h; done)
    rename_i u hu
    split at h <;> try (simp at h; done)
    rename_i u' hu'
    obtain ⟨e1, e2⟩ := ev_eval ha hu; obtain ⟨e3, e4⟩ := ev_eval ha hu'
    obtain rfl : args = #[x, y] := by apply Array.ext'; simpa using hx
    simp only [resolve, Sem.run_bind, Sem.run_pure, Result.andThen_ok, invoke, builtin, List.map_toArray, List.map_cons, List.map_nil, e1, e3]
    obtain ⟨r1, r2⟩ := max_sound (P := P) (E := E) (H := H) (w := w) (ts := ts) (ty := o.type) vc v h hc
    exact ⟨by simp [r1], r2⟩
  case h_21 args ts hop =>
    rw [hop]; simp only
    split at h <;> try (simp at h; done)
    rename_i x y hx
    split at h <;> try (simp at h; done)
    rename_i u hu
    split at h <;> try (simp at h; done)
    rename_i u' hu'
    obtain ⟨e1, e2⟩ := ev_eval ha hu; obtain ⟨e3, e4⟩ := ev_eval ha hu'
    obtain rfl : args = #[x, y] := by apply Array.ext'; simpa using hx
    simp only [resolve, Sem.run_bind, Sem.run_pure, Result.andThen_ok, invoke, builtin, List.map_toArray, List.map_cons, List.map_nil, e1, e3]
    obtain ⟨r1, r2⟩ := min_sound (P := P) (E := E) (H := H) (w := w) (ts := ts) (ty := o.type) vc v h hc
    exact ⟨by simp [r1], r2⟩
  case h_22 => simp at h
end
end Go.Proofs.YtonohiifmepjfaaDoor.Ev
