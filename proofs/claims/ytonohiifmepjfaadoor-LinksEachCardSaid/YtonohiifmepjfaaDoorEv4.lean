/-
  Own framework, part 4: addresses, parts, slices, conversions; all quiet operations together.
-/
import Derived.Test.YtonohiifmepjfaaDoorEv3
namespace Go.Proofs.YtonohiifmepjfaaDoor.Ev
open Go Go.RowKit

section
variable {P : Program} {E : Env} {H : List Ob} {w : World}

def unV (op : UnOp) (x : V) : QR :=
  match op, x with
  | .neg, .int k n => qok (.int k (k.wrap (0 - n)))
  | .xor, .int k n => qok (.int k (bitsI .xor k (if k.signed then -1 else k.max) n))
  | .not, .bool b => qok (.bool (!b))
  | _, _ => none

theorem un_sound {op : UnOp} {x : V} : QOk P E H w (Op.unary op (emb E x)) (unV op x) := by
  intro vc v h hc
  unfold unV at h
  split at h <;> simp at h <;> obtain ⟨rfl, rfl⟩ := h <;> simp [Op.unary, Op.intArith, Op.intBits, bitsI, emb, WF]

def convV (P : Program) (dst : TypeId) (x : V) : QR :=
  match P.underlying dst with
  | some (.int k) => match x with
    | .int _ n => qok (.int k (k.wrap n))
    | _ => none
  | _ => none

theorem conv_sound {src dst : TypeId} {x : V} (hs : (P.underlying src).isSome = true) : QOk P E H w (convert src dst (emb E x)) (convV P dst x) := by
  intro vc v h hc
  unfold convV at h
  split at h
  · rename_i k hk
    split at h
    · simp at h
      obtain ⟨rfl, rfl⟩ := h
      obtain ⟨d, hd⟩ := Option.isSome_iff_exists.1 hs
      simp [convert, run_underlying hd, run_underlying hk, emb, Conv.intToInt, WF]
    · simp at h
  · simp at h

def ifaceV (P : Program) (t : TypeId) (x : V) : QR :=
  match P.underlying t with
  | some (.interface _) => none
  | some _ => qok (.iface t x)
  | none => none

theorem iface_sound {t : TypeId} {x : V} (hx : WF E H.length x) : QOk P E H w (Instr.makeInterface t (emb E x)) (ifaceV P t x) := by
  intro vc v h hc
  unfold ifaceV at h
  split at h
  · simp at h
  · rename_i d hn hu
    simp at h
    obtain ⟨rfl, rfl⟩ := h
    refine ⟨?_, by simpa [WF] using hx⟩
    unfold Instr.makeInterface
    simp only [Sem.run_bind, run_underlying hu, Result.andThen_ok, emb]
    cases d <;> simp_all
  · simp at h

def fieldAddrV (P : Program) (s : TypeId) (x : V) (f : Nat) : QR :=
  match P.underlying s with
  | some (.struct fs) => match fs.toList[f]? with
    | some fd => match szOf P fd.type with
      | some (_ + 1) => match x with
        | .ptr l e c => qok (.ptr l e (c + fd.offset))
        | _ => none
      | _ => none
    | none => none
  | _ => none

theorem fieldAddr_sound {s : TypeId} {x : V} {f : Nat} (hx : WF E H.length x) : QOk P E H w (Instr.fieldAt s (emb E x) f) (fieldAddrV P s x f) := by
  intro vc v h hc
  unfold fieldAddrV at h
  split at h
  · rename_i fs hu
    split at h
    · rename_i fd hf
      split at h
      · rename_i n hs
        split at h
        · rename_i l e c
          simp at h
          obtain ⟨rfl, rfl⟩ := h
          refine ⟨?_, by simpa [WF] using hx⟩
          have hf' : fs[f]? = some fd := by simpa using hf
          simp [Instr.fieldAt, run_underlying hu, hf', emb, Instr.sureAddr, fieldPlace, run_sizeOf' hs, at_add]
        · simp at h
      · simp at h
    · simp at h
  · simp at h

def fieldV (P : Program) (t : TypeId) (x : V) (f : Nat) : QR :=
  match P.underlying t with
  | some (.struct fs) => match fs.toList[f]? with
    | some fd => match x with
      | .agg cs => match partV P fd.type cs fd.offset with
        | some v => qok v
        | none => none
      | _ => none
    | none => none
  | _ => none

theorem field_sound {t : TypeId} {x : V} {f : Nat} (hx : WF E H.length x) : QOk P E H w (Instr.field t (emb E x) f) (fieldV P t x f) := by
  intro vc v h hc
  unfold fieldV at h
  split at h
  · rename_i fs hu
    split at h
    · rename_i fd hf
      split at h
      · rename_i cs
        split at h
        · rename_i u hp
          simp at h
          obtain ⟨rfl, rfl⟩ := h
          have hf' : fs[f]? = some fd := by simpa using hf
          obtain ⟨p1, p2⟩ := partV_sound (P := P) (w := w) (by simpa [WF] using hx) hp
          refine ⟨?_, p2⟩
          simp [Instr.field, run_underlying hu, hf', emb, asAgg, p1]
        · simp at h
      · simp at h
    · simp at h
  · simp at h

/-- The object that a package variable is. -/
def globAt (g : Nat) : List Ob → Nat → Option Nat
  | [], _ => none
  | .mem false ty [] _ [_] :: H, l => match Nat.beq ty (1000000 + g) with
    | true => some l
    | false => globAt g H (l + 1)
  | _ :: H, l => globAt g H (l + 1)
def indexAddrV (P : Program) (t : TypeId) (H : List Ob) (x i : V) : QR :=
  match i with
  | .int _ i => match P.underlying t with
    | some (.slice el) => match szOf P el with
      | some s => match x with
        | .slc _ _ l st len => match H[l]? with
          | some (.mem _ _ _ _ cols) => match decide (cols.length = s) with
            | true => qif (0 ≤ i ∧ i < len) (.ptr l (st + i.toNat) 0)
            | false => none
          | _ => none
        | _ => none
      | none => none
    | some (.array len el) => match szOf P el with
      | some s => match x with
        | .ptr l e c => match H[l]? with
          | some (.mem _ _ pre _ cols) => match pre.drop c with
            | [] => match decide (cols.length = s) with
              | true => qif (0 ≤ i ∧ i < len) (.ptr l (e + i.toNat) c)
              | false => match cols with
                | [_] => qif (0 ≤ i ∧ i < len) (.ptr l (e + i.toNat * s) c)
                | _ => none
            | _ => qif (0 ≤ i ∧ i < len) (.ptr l e (c + i.toNat * s))
          | _ => none
        | .raw (.pointer (some ⟨g, 0, none⟩)) => match s with
          | 1 => match globAt g H 0 with
            | some l => qif (0 ≤ i ∧ i < len) (.ptr l i.toNat 0)
            | none => none
          | _ => none
        | _ => none
      | none => none
    | _ => none
  | _ => none

theorem at_row (L : Loc) (e c m : Nat) : L.at (e + m) c = ⟨L.block, L.off + e * L.stride + c + m * L.stride, none⟩ := by
  unfold Loc.at
  congr 1
  rw [Nat.add_mul]; omega

theorem add_at (L : Loc) (e c n : Nat) : (L.at e c).add n = ⟨L.block, L.off + e * L.stride + c + n, none⟩ := by
  rw [at_add]; unfold Loc.at; congr 1; omega

theorem globAt_some {g : Nat} : ∀ {H : List Ob} {l0 l : Nat}, globAt g H l0 = some l → ∃ j, l = l0 + j ∧ ∃ n c, H[j]? = some (.mem false (1000000 + g) [] n [c])
  | [], l0, l, h => by simp [globAt] at h
  | o :: H, l0, l, h => by
    have rest : globAt g H (l0 + 1) = some l → ∃ j, l = l0 + j ∧ ∃ n c, (o :: H)[j]? = some (.mem false (1000000 + g) [] n [c]) := fun h => by
      obtain ⟨j, h1, n, c, h2⟩ := globAt_some h
      exact ⟨j + 1, by omega, n, c, by simpa using h2⟩
    unfold globAt at h
    split at h
    · simp at h
    · rename_i ty n c H' heq
      split at h
      · rename_i hb
        injection heq with e1 e2
        subst e1
        simp at h; subst h
        exact ⟨0, by simp, n, c, by simp [Nat.eq_of_beq_eq_true hb]⟩
      · injection heq with e1 e2
        subst e2
        exact rest h
    · rename_i x H' hx heq
      injection heq with e1 e2
      subst e2
      exact rest h

theorem indexAddr_sound {t : TypeId} {x i : V} (hr : Rep E H w) (hx : WF E H.length x) : QOk P E H w (Instr.indexAt t (emb E x) (emb E i)) (indexAddrV P t H x i) := by
  intro vc v h hc
  unfold indexAddrV at h
  split at h
  · rename_i ik i
    split at h
    · rename_i el hu
      split at h
      · rename_i s hs
        split at h
        · rename_i a cap l st len
          split at h
          · rename_i own ty pre n cols hl
            split at h
            · rename_i hst
              simp at h hst
              obtain ⟨rfl, rfl⟩ := h
              have hb : 0 ≤ i ∧ i < (len : Int) := hc
              simp only [WF] at hx
              obtain ⟨h1, h2, h3, h4⟩ := hx
              have ha := (h4 (by omega)).1
              have hstr : (E l).stride = cols.length := (hr.ob l _ hl).2.1
              refine ⟨?_, by simpa [WF] using h1⟩
              simp [Instr.indexAt, asIntOf, emb, run_underlying hu, hb, run_sizeOf' hs, ha]
              rw [at_row, add_at, hstr, hst]
            · simp at h
          · simp at h
        · simp at h
      · simp at h
    · rename_i len el hu
      split at h
      · rename_i s hs
        split at h
        · rename_i l e c
          split at h
          · rename_i own ty pre n cols hl
            have hstr : (E l).stride = cols.length := (hr.ob l _ hl).2.1
            simp only [WF] at hx
            split at h
            · split at h
              · rename_i hst
                simp at h hst
                obtain ⟨rfl, rfl⟩ := h
                have hb : 0 ≤ i ∧ i < (len : Int) := hc
                refine ⟨?_, by simpa [WF] using hx⟩
                simp [Instr.indexAt, asIntOf, emb, run_underlying hu, hb, run_sizeOf' hs, Instr.sureAddr]
                rw [at_row, add_at, hstr, hst]
              · split at h
                · simp at h
                  obtain ⟨rfl, rfl⟩ := h
                  have hb : 0 ≤ i ∧ i < (len : Int) := hc
                  refine ⟨?_, by simpa [WF] using hx⟩
                  simp [Instr.indexAt, asIntOf, emb, run_underlying hu, hb, run_sizeOf' hs, Instr.sureAddr]
                  rw [at_row, add_at, hstr]; simp
                · simp at h
            · simp at h
              obtain ⟨rfl, rfl⟩ := h
              have hb : 0 ≤ i ∧ i < (len : Int) := hc
              refine ⟨?_, by simpa [WF] using hx⟩
              simp [Instr.indexAt, asIntOf, emb, run_underlying hu, hb, run_sizeOf' hs, Instr.sureAddr, at_add]
          · simp at h
        · rename_i g
          split at h
          · split at h
            · rename_i l hg
              simp at h
              obtain ⟨rfl, rfl⟩ := h
              have hb : 0 ≤ i ∧ i < (len : Int) := hc
              obtain ⟨j, hj, n, c, hl⟩ := globAt_some hg
              rw [Nat.zero_add] at hj; subst hj
              obtain ⟨_, o2, _, _, _, _, o7⟩ := hr.ob l _ hl
              obtain ⟨g1, g2, g3⟩ := o7 rfl (Nat.le_add_right _ _)
              refine ⟨?_, by simp only [WF]; exact (List.getElem?_eq_some_iff.1 hl).1⟩
              simp [Instr.indexAt, asIntOf, emb, run_underlying hu, hb, run_sizeOf' hs, Instr.sureAddr]
              unfold Addr.add Loc.at
              rw [g2, g3, o2]
              split
              · rename_i h0; simp [h0]
              · simp
            · simp at h
          · simp at h
        · simp at h
      · simp at h
    · simp at h
  · simp at h

def indexV (P : Program) (t : TypeId) (x i : V) : QR :=
  match i with
  | .int _ i => match P.underlying t with
    | some (.array len el) => match szOf P el with
      | some s => match x with
        | .agg cs => match partV P el cs (i.toNat * s) with
          | some v => qif (0 ≤ i ∧ i < len) v
          | none => none
        | _ => none
      | none => none
    | some .string => match x with
      | .str b => qif (0 ≤ i ∧ i < b.size) (.int .u8 ((b.data.toList.getD i.toNat 0).toNat))
      | _ => none
    | _ => none
  | _ => none

theorem index_sound {t : TypeId} {x i : V} (hx : WF E H.length x) : QOk P E H w (Instr.index t (emb E x) (emb E i)) (indexV P t x i) := by
  intro vc v h hc
  unfold indexV at h
  split at h
  · rename_i ik i
    split at h
    · rename_i len el hu
      split at h
      · rename_i s hs
        split at h
        · rename_i cs
          split at h
          · rename_i u hp
            simp at h
            obtain ⟨rfl, rfl⟩ := h
            have hb : 0 ≤ i ∧ i < (len : Int) := hc
            obtain ⟨p1, p2⟩ := partV_sound (P := P) (w := w) (by simpa [WF] using hx) hp
            exact ⟨by simp [Instr.index, asIntOf, emb, run_underlying hu, hb, run_sizeOf' hs, p1], p2⟩
          · simp at h
        · simp at h
      · simp at h
    · rename_i hu
      split at h
      · rename_i b
        simp at h
        obtain ⟨rfl, rfl⟩ := h
        have hb : 0 ≤ i ∧ i < (b.size : Int) := hc
        have hlt : i.toNat < b.size := by omega
        have hg : b[i.toNat]? = some (b.data.toList.getD i.toNat 0) := by
          have h2 : i.toNat < b.data.toList.length := by simpa using hlt
          rw [List.getD_eq_getElem?_getD, List.getElem?_eq_getElem h2]
          rw [getElem?_pos b i.toNat hlt]
          rfl
        refine ⟨?_, by simp [WF]⟩
        simp only [Instr.index, asIntOf, emb, Sem.run_bind, Sem.run_pure, Result.andThen_ok, run_underlying hu, if_pos hb.1, hg]
        simp
      · simp at h
    · simp at h
  · simp at h

def extractV (x : V) (i : Nat) : QR :=
  match x with
  | .tup vs => match vs[i]? with
    | some v => qok v
    | none => none
  | _ => none

theorem extract_sound {x : V} {i : Nat} (hx : WF E H.length x) : QOk P E H w (Instr.extract (emb E x) i) (extractV x i) := by
  intro vc v h hc
  unfold extractV at h
  split at h
  · rename_i vs
    split at h
    · rename_i u hu
      simp at h
      obtain ⟨rfl, rfl⟩ := h
      exact ⟨by simp [Instr.extract, emb, embs_eq, hu], WFs_iff.1 (by simpa [WF] using hx) u (List.mem_of_getElem? hu)⟩
    · simp at h
  · simp at h

def nilCheckV (x : V) : QR :=
  match x with
  | .ptr l e c => qok (.ptr l e c)
  | .iface t v => qok (.iface t v)
  | .func (.func f) a b => qok (.func (.func f) a b)
  | .yld l => qok (.yld l)
  | _ => none

def pickV (c a b : V) : QR :=
  match c with
  | .bool t => match a, b with
    | .bool x, .bool y => qok (.bool (bif t then x else y))
    | _, _ => match t with
      | true => qok a
      | false => qok b
  | _ => none

def typeAssertV (P : Program) (x : V) (asserted : TypeId) (ok : Bool) : QR :=
  match P.underlying asserted with
  | some (.interface _) => none
  | some _ => match x with
    | .nili => match ok with
      | true => match zeroV P asserted with
        | some z => qok (.tup [z, .bool false])
        | none => none
      | false => none
    | .iface t v => match decide (t = asserted) with
      | true => match ok with
        | true => qok (.tup [v, .bool true])
        | false => qok v
      | false => match ok with
        | true => match zeroV P asserted with
          | some z => qok (.tup [z, .bool false])
          | none => none
        | false => none
    | _ => none
  | none => none

theorem typeAssert_sound {x : V} {xt asserted : TypeId} {ok : Bool} (hx : WF E H.length x) : QOk P E H w (Instr.typeAssert (emb E x) xt asserted ok) (typeAssertV P x asserted ok) := by
  intro vc v h hc
  unfold typeAssertV at h
  split at h
  · simp at h
  · rename_i d hn hu
    split at h
    · split at h
      · split at h
        · rename_i z hz
          simp at h
          obtain ⟨rfl, rfl⟩ := h
          obtain ⟨z1, z2⟩ := run_zeroValue' (P := P) (E := E) (w := w) (N := H.length) hz
          refine ⟨?_, by simpa [WF, WFs] using z2⟩
          unfold Instr.typeAssert
          simp only [Sem.run_bind, run_underlying hu, Result.andThen_ok, emb]
          cases d <;> simp_all [emb, embs]
        · simp at h
      · simp at h
    · rename_i t v'
      split at h
      · rename_i ht
        simp at ht; subst ht
        split at h <;> simp at h <;> obtain ⟨rfl, rfl⟩ := h
        · refine ⟨?_, by simpa [WF, WFs] using hx⟩
          unfold Instr.typeAssert
          simp only [Sem.run_bind, run_underlying hu, Result.andThen_ok, emb]
          cases d <;> simp_all [emb, embs]
        · refine ⟨?_, by simpa [WF, WFs] using hx⟩
          unfold Instr.typeAssert
          simp only [Sem.run_bind, run_underlying hu, Result.andThen_ok, emb]
          cases d <;> simp_all
      · rename_i ht
        simp at ht
        split at h
        · split at h
          · rename_i z hz
            simp at h
            obtain ⟨rfl, rfl⟩ := h
            obtain ⟨z1, z2⟩ := run_zeroValue' (P := P) (E := E) (w := w) (N := H.length) hz
            refine ⟨?_, by simpa [WF, WFs] using z2⟩
            unfold Instr.typeAssert
            simp only [Sem.run_bind, run_underlying hu, Result.andThen_ok, emb]
            cases d <;> simp_all [emb, embs]
          · simp at h
        · simp at h
    · simp at h
  · simp at h
end
end Go.Proofs.YtonohiifmepjfaaDoor.Ev
