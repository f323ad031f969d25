/-
  Own framework, part 3: the other operations that only read: arithmetic, comparisons, addresses, interface values.
-/
import Derived.Test.YtonohiifmepjfaaDoorEv2
import Derived.Laws.StructEq
namespace Go.Proofs.YtonohiifmepjfaaDoor.Ev
open Go Go.RowKit

/-- What a quiet operation's function is to keep: the run yields its value, the world stays. -/
def QOk (P : Program) (E : Env) (H : List Ob) (w : World) (s : Sem Value) (r : QR) : Prop :=
  ∀ vc v, r = some (vc, v) → vc.holds → s.run P w = .ok (emb E v) w ∧ WF E H.length v

section
variable {P : Program} {E : Env} {H : List Ob} {w : World}

/-! ### Numbers -/
def bitsI (op : BinOp) (k : IntKind) (x y : Int) : Int :=
  let a := BitVec.ofInt k.bits x
  let b := BitVec.ofInt k.bits y
  match op with
  | .and => k.wrap (a &&& b).toNat
  | .or => k.wrap (a ||| b).toNat
  | .xor => k.wrap (a ^^^ b).toNat
  | _ => k.wrap (a &&& ~~~b).toNat

def arithV (op : BinOp) (k : IntKind) (x y : Int) : QR :=
  match op with
  | .add => qok (.int k (k.wrap (x + y)))
  | .sub => qok (.int k (k.wrap (x - y)))
  | .mul => qok (.int k (k.wrap (x * y)))
  | .quo => qif (y ≠ 0) (.int k (k.wrap (x.tdiv y)))
  | .rem => qif (y ≠ 0) (.int k (x.tmod y))
  | .and => qok (.int k (bitsI .and k x y))
  | .or => qok (.int k (bitsI .or k x y))
  | .xor => qok (.int k (bitsI .xor k x y))
  | .andNot => qok (.int k (bitsI .andNot k x y))
  | .eql => qok (.bool (x == y))
  | .neq => qok (.bool (x != y))
  | .lss => qok (.bool (decide (x < y)))
  | .leq => qok (.bool (decide (x ≤ y)))
  | .gtr => qok (.bool (decide (x > y)))
  | .geq => qok (.bool (decide (x ≥ y)))
  | _ => none

def shiftV (op : BinOp) (k : IntKind) (x y : Int) : QR :=
  match op with
  | .shl => qif (0 ≤ y) (.int k (k.wrap (x * 2 ^ (min y.toNat k.bits))))
  | .shr => qif (0 ≤ y) (.int k (x.fdiv (2 ^ (min y.toNat k.bits))))
  | _ => none

/-! ### Equality -/
def partV (P : Program) (t : TypeId) (cs : List V) (off : Nat) : Option V :=
  match isAggO P t with
  | some true => match szOf P t with
    | some s => some (.agg ((cs.drop off).take s))
    | none => none
  | some false => cs[off]?
  | none => none

theorem partV_sound {N : Nat} {t : TypeId} {cs : List V} {off : Nat} {v : V} (hw : WFs E N cs) (h : partV P t cs off = some v) :
    (part t (embs E cs).toArray off).run P w = .ok (emb E v) w ∧ WF E N v := by
  unfold partV at h
  split at h
  · rename_i ha
    split at h
    · rename_i s hs
      simp at h; subst h
      have hwf : WFs E N ((cs.drop off).take s) := WFs_iff.2 fun v hv => WFs_iff.1 hw v (List.mem_of_mem_drop (List.mem_of_mem_take hv))
      refine ⟨?_, hwf⟩
      simp only [part, Sem.run_bind, run_isAgg' ha, Result.andThen_ok, if_true, run_sizeOf' hs, Sem.run_pure, emb]
      congr 2
      apply Array.ext'
      simp [embs_eq, List.map_take, List.map_drop, List.extract_eq_take_drop]
    · simp at h
  · rename_i ha
    refine ⟨?_, WFs_iff.1 hw v (List.mem_of_getElem? h)⟩
    simp [part, run_isAgg' ha, embs_eq, h]
  · simp at h

mutual
def eqV (P : Program) : Nat → TypeId → V → V → Option (Cond × Bool)
  | 0, _, _, _ => none
  | n + 1, t, x, y =>
    match P.underlying t with
    | some .bool => match x, y with
      | .bool a, .bool b => some (none, a == b)
      | _, _ => none
    | some (.int _) => match x, y with
      | .int k a, .int k' b => match decide (k = k') with
        | true => some (none, a == b)
        | false => none
      | _, _ => none
    | some .string => match x, y with
      | .str a, .str b => some (none, a == b)
      | _, _ => none
    | some (.pointer _) => match x, y with
      | .nilp, .nilp => some (none, true)
      | .nilp, .ptr _ _ _ => some (none, false)
      | .ptr _ _ _, .nilp => some (none, false)
      | _, _ => none
    | some (.slice _) => match x, y with
      | .nils, .nils => some (none, true)
      | .nils, .slc a _ _ _ _ => some (none, a.isNone)
      | .slc a _ _ _ _, .nils => some (none, a.isNone)
      | _, _ => none
    | some (.interface _) => match x, y with
      | .nili, .nili => some (none, true)
      | .nili, .iface _ _ => some (none, false)
      | .iface _ _, .nili => some (none, false)
      | _, _ => none
    | some (.struct fs) => match x, y with
      | .agg xs, .agg ys => match eqFs P n xs ys fs.toList with
        | some (c, b) => some (Cond.and (some (P.stoodInHeld t = false)) c, b)
        | none => none
      | _, _ => none
    | _ => none
def eqFs (P : Program) : Nat → List V → List V → List Field → Option (Cond × Bool)
  | _, _, _, [] => some (none, true)
  | 0, _, _, _ => none
  | n + 1, xs, ys, f :: fs =>
    match partV P f.type xs f.offset with
    | some a => match partV P f.type ys f.offset with
      | some b => match eqV P n f.type a b with
        | some (c, r) => match fs with
          | [] => some (Cond.and (some (f.name ≠ "_")) c, r)
          | _ => match eqFs P n xs ys fs with
            | some (c', r') => some (Cond.and (some (f.name ≠ "_")) (Cond.and c c'), r && r')
            | none => none
        | none => none
      | none => none
    | none => none
end

theorem eq_sound (n : Nat) :
    (∀ (t : TypeId) (x y : V) (c : Cond) (b : Bool) (N d : Nat), eqV P n t x y = some (c, b) → c.holds → WF E N x → WF E N y → n ≤ d →
      (Op.equalIn d t (emb E x) (emb E y)).run P w = .ok b w) ∧
    (∀ (fs : List Field) (xs ys : List V) (c : Cond) (b : Bool) (N d : Nat), eqFs P n xs ys fs = some (c, b) → c.holds → WFs E N xs → WFs E N ys → n ≤ d →
      (Op.eqFields d (embs E xs).toArray (embs E ys).toArray fs).run P w = .ok b w) := by
  induction n with
  | zero =>
    refine ⟨fun t x y c b N d h => by simp [eqV] at h, fun fs xs ys c b N d h => ?_⟩
    cases fs with
    | nil => simp [eqFs] at h; intro _ _ _ _; simp [Op.eqFields, h.2]
    | cons f fs => simp [eqFs] at h
  | succ n ih =>
    obtain ⟨ih1, ih2⟩ := ih
    constructor
    · intro t x y c b N d h hc hx hy hd
      obtain ⟨d, rfl⟩ : ∃ m, d = m + 1 := ⟨d - 1, by omega⟩
      simp only [eqV] at h
      split at h
      · rename_i hu
        split at h <;> simp at h
        obtain ⟨_, rfl⟩ := h
        simp [Op.equalIn, run_underlying hu, emb]
      · rename_i k hu
        split at h
        · split at h
          · rename_i hk
            simp at h hk
            obtain ⟨_, rfl⟩ := h
            subst hk
            simp [Op.equalIn, run_underlying hu, emb]
          · simp at h
        · simp at h
      · rename_i hu
        split at h <;> simp at h
        obtain ⟨_, rfl⟩ := h
        simp [Op.equalIn, run_underlying hu, emb]
      · rename_i e hu
        split at h <;> simp at h <;> (obtain ⟨_, rfl⟩ := h) <;> simp [Op.equalIn, run_underlying hu, emb]
      · rename_i e hu
        split at h <;> simp at h <;> (obtain ⟨_, rfl⟩ := h)
        · simp [Op.equalIn, run_underlying hu, emb]
        · rename_i a _ _ _ _ _; cases a <;> simp [Op.equalIn, run_underlying hu, emb]
        · rename_i a _ _ _ _ _; cases a <;> simp [Op.equalIn, run_underlying hu, emb]
      · rename_i e hu
        split at h <;> simp at h <;> (obtain ⟨_, rfl⟩ := h) <;> simp [Op.equalIn, run_underlying hu, emb]
      · rename_i fs hu
        split at h
        · rename_i xs ys
          split at h
          · rename_i c1 b1 hf
            simp at h
            obtain ⟨rfl, rfl⟩ := h
            obtain ⟨h1, h2⟩ := Cond.and_holds hc
            have hfo : P.fieldsOf t = fs := by simp [Program.fieldsOf, hu]
            simp only [emb]
            rw [run_equalIn_struct w d t _ _ (by rw [hfo]; exact hu) h1, hfo]
            exact ih2 fs.toList xs ys c1 b1 N d hf h2 (by simpa [WF] using hx) (by simpa [WF] using hy) (by omega)
          · simp at h
        · simp at h
      · simp at h
    · intro fs xs ys c b N d h hc hx hy hd
      cases fs with
      | nil => simp [eqFs] at h; simp [Op.eqFields, h.2]
      | cons f fs =>
        simp only [eqFs] at h
        split at h
        · rename_i a ha
          split at h
          · rename_i a' ha'
            split at h
            · rename_i c1 r1 h1
              obtain ⟨p1, q1⟩ := partV_sound (P := P) (w := w) hx ha
              obtain ⟨p2, q2⟩ := partV_sound (P := P) (w := w) hy ha'
              split at h
              · simp at h
                obtain ⟨rfl, rfl⟩ := h
                obtain ⟨n1, n2⟩ := Cond.and_holds hc
                have := ih1 f.type a a' c1 r1 N d h1 n2 q1 q2 (by omega)
                simp only [Op.eqFields, if_pos (show f.name ≠ "_" from n1), Sem.run_bind, p1, p2, this, Result.andThen_ok]
                cases r1 <;> simp
              · rename_i hne
                split at h
                · rename_i c2 r2 h2
                  simp at h
                  obtain ⟨rfl, rfl⟩ := h
                  obtain ⟨n1, n2⟩ := Cond.and_holds hc
                  obtain ⟨n3, n4⟩ := Cond.and_holds n2
                  have := ih1 f.type a a' c1 r1 N d h1 n3 q1 q2 (by omega)
                  have h3 := ih2 fs xs ys c2 r2 N d h2 n4 hx hy (by omega)
                  simp only [Op.eqFields, if_pos (show f.name ≠ "_" from n1), Sem.run_bind, p1, p2, this, Result.andThen_ok]
                  cases r1 <;> simp [h3]
                · simp at h
            · simp at h
          · simp at h
        · simp at h

def isNum : V → Bool
  | .int _ _ => true
  | _ => false

/-- Whether the guard against two nil interface values has nothing to say. -/
def guardOk (P : Program) (t : TypeId) (x y : Operand) (a b : V) : Option Cond :=
  match a, b with
  | .nili, .nili => match x with
    | .const _ => some none
    | _ => match y with
      | .const _ => some none
      | _ => none
  | .agg _, .agg _ => some (some (P.eqGuardType P.depth t = false))
  | _, _ => some none

theorem guard_other {op : BinOp} {t : TypeId} {x y : Operand} {u v : Value} (hu : u = .nilIface → v = .nilIface → False) (hv : ∀ xs ys, u = .agg xs → v = .agg ys → False) :
    (eqGuard op t x y u v).run P w = .ok () w := by
  rcases Decidable.em (op = .eql ∨ op = .neq) with ho | ho
  · rcases ho with rfl | rfl <;> unfold eqGuard <;> simp only [Bool.not_true, Bool.false_eq_true, if_false] <;> rfl
  · cases op <;> simp_all [eqGuard]

def V.isRaw : V → Bool
  | .raw _ => true
  | _ => false
theorem emb_int {v : V} (hv : v.isRaw = false) {k : IntKind} {m : Int} (h : emb E v = .int k m) : v = .int k m := by
  cases v <;> simp_all [emb, V.isRaw]
theorem emb_string {v : V} (hv : v.isRaw = false) {s : ByteArray} (h : emb E v = .string s) : v = .str s := by
  cases v <;> simp_all [emb, V.isRaw]
theorem emb_nili {v : V} (hv : v.isRaw = false) (h : emb E v = .nilIface) : v = .nili := by
  cases v <;> simp_all [emb, V.isRaw]
theorem emb_agg {v : V} (hv : v.isRaw = false) {xs : Array Value} (h : emb E v = .agg xs) : ∃ cs, v = .agg cs := by
  cases v <;> simp_all [emb, V.isRaw]

theorem guard_sound {op : BinOp} {t : TypeId} {x y : Operand} {a b : V} (ra : a.isRaw = false) (rb : b.isRaw = false) {c : Cond} (h : guardOk P t x y a b = some c) (hc : c.holds) :
    (eqGuard op t x y (emb E a) (emb E b)).run P w = .ok () w := by
  unfold guardOk at h
  split at h
  · split at h
    · rename_i v; unfold eqGuard; simp [emb]
    · split at h
      · unfold eqGuard; simp [emb]
      · simp at h
  · simp at h; subst h
    have hm : P.eqGuardType P.depth t = false := hc
    simp only [emb]
    exact run_eqGuard_agg w op t x y _ _ hm
  · rename_i h1 h2
    refine guard_other (fun e1 e2 => ?_) (fun xs ys e1 e2 => ?_)
    · exact h1 (emb_nili ra e1) (emb_nili rb e2)
    · obtain ⟨cs, q1⟩ := emb_agg ra e1
      obtain ⟨cs', q2⟩ := emb_agg rb e2
      exact h2 _ _ q1 q2

def binV0 (P : Program) (op : BinOp) (t : TypeId) (x y : Operand) (a b : V) : QR :=
  match a, b with
  | .int k m, .int k' m' => match op with
    | .shl => shiftV .shl k m m'
    | .shr => shiftV .shr k m m'
    | _ => match decide (k = k') with
      | true => arithV op k m m'
      | false => none
  | .str s, .str s' => match op with
    | .eql => qok (.bool (s == s'))
    | .neq => qok (.bool (s != s'))
    | _ => none
  | _, _ => match op with
    | .eql => match guardOk P t x y a b with
      | some c => match eqV P 8 t a b with
        | some (c', r) => some (c.and c', .bool r)
        | none => none
      | none => none
    | .neq => match guardOk P t x y a b with
      | some c => match eqV P 8 t a b with
        | some (c', r) => some (c.and c', .bool (!r))
        | none => none
      | none => none
    | _ => none

theorem shift_sound {op : BinOp} {k k' : IntKind} {m m' : Int} : QOk P E H w (Op.shift op k m k' m') (shiftV op k m m') := by
  intro vc v h hc
  unfold shiftV at h
  split at h <;> simp at h <;> obtain ⟨rfl, rfl⟩ := h <;> (have hc : 0 ≤ m' := hc) <;> simp [Op.shift, show ¬ m' < 0 by omega, emb, WF]

theorem arith_sound {op : BinOp} {k : IntKind} {t : TypeId} {m m' : Int} (h1 : op ≠ .shl) (h2 : op ≠ .shr) : QOk P E H w (binOp op t (.int k m) (.int k m')) (arithV op k m m') := by
  intro vc v h hc
  unfold arithV at h
  split at h <;> simp at h <;> obtain ⟨rfl, rfl⟩ := h <;>
    first
      | (simp [binOp, Op.intArith, Op.intBits, Op.intCmp, emb, WF, bitsI]; done)
      | (have hc : m' ≠ 0 := hc; simp [binOp, Op.intDiv, emb, WF, hc]; done)

theorem bin_other {op : BinOp} {t : TypeId} {a b : Value} (ho : op = .eql ∨ op = .neq) (h1 : ∀ k m k' m', a = .int k m → b = .int k' m' → False) (h2 : ∀ s s', a = .string s → b = .string s' → False)
    (h3 : ∀ k m, a = .float k m → False) (h4 : ∀ k m m1, a = .complex k m m1 → False) :
    binOp op t a b = (do let r ← Op.equal t a b; pure (.bool (if op = .eql then r else !r))) := by
  rcases ho with rfl | rfl <;> unfold binOp <;> split <;> first | rfl | (exfalso; first | exact h1 _ _ _ _ rfl rfl | exact h2 _ _ rfl rfl | exact h3 _ _ rfl | exact h4 _ _ _ rfl) | simp_all

theorem emb_not {v : V} (hv : v.isRaw = false) : (∀ k m, emb E v = .float k m → False) ∧ (∀ k m m1, emb E v = .complex k m m1 → False) := by
  cases v <;> simp_all [emb, V.isRaw]

theorem bin0_sound {op : BinOp} {t : TypeId} {x y : Operand} {a b : V} (ra : a.isRaw = false) (rb : b.isRaw = false) (ha : WF E H.length a) (hb : WF E H.length b) :
    QOk P E H w (do eqGuard op t x y (emb E a) (emb E b); binOp op t (emb E a) (emb E b)) (binV0 P op t x y a b) := by
  intro vc v h hc
  unfold binV0 at h
  split at h
  · rename_i k m k' m'
    have hg : (eqGuard op t x y (emb E (.int k m)) (emb E (.int k' m'))).run P w = .ok () w := by unfold eqGuard; simp [emb]
    simp only [Sem.run_bind, hg, Result.andThen_ok]
    split at h
    · simpa [binOp, emb] using shift_sound (P := P) (E := E) (H := H) (w := w) (k' := k') vc v h hc
    · simpa [binOp, emb] using shift_sound (P := P) (E := E) (H := H) (w := w) (k' := k') vc v h hc
    · rename_i n1 n2
      split at h
      · rename_i hk
        simp at hk; subst hk
        simpa [emb] using arith_sound (P := P) (E := E) (H := H) (w := w) (t := t) (by simpa using n1) (by simpa using n2) vc v h hc
      · simp at h
  · rename_i s s'
    have hg : (eqGuard op t x y (emb E (.str s)) (emb E (.str s'))).run P w = .ok () w := by unfold eqGuard; simp [emb]
    simp only [Sem.run_bind, hg, Result.andThen_ok]
    split at h <;> simp at h <;> obtain ⟨rfl, rfl⟩ := h <;> simp [binOp, emb, Op.stringOp, WF, beq_toListBytes, bne]
  · rename_i n1 n2
    split at h
    · split at h
      · rename_i c hgd
        split at h
        · rename_i c' r he
          simp at h
          obtain ⟨rfl, rfl⟩ := h
          obtain ⟨c1, c2⟩ := Cond.and_holds hc
          have hg := guard_sound (P := P) (E := E) (w := w) (op := .eql) ra rb hgd c1
          have heq := (eq_sound (P := P) (E := E) (w := w) 8).1 t a b c' r _ 10000 he c2 ha hb (by omega)
          simp only [Sem.run_bind, hg, Result.andThen_ok]
          rw [bin_other (.inl rfl) (fun k m k' m' e1 e2 => n1 _ _ _ _ (emb_int ra e1) (emb_int rb e2)) (fun s s' e1 e2 => n2 _ _ (emb_string ra e1) (emb_string rb e2)) (emb_not ra).1 (emb_not ra).2]
          simp [Op.equal, Op.maxDepth, heq, emb, WF]
        · simp at h
      · simp at h
    · split at h
      · rename_i c hgd
        split at h
        · rename_i c' r he
          simp at h
          obtain ⟨rfl, rfl⟩ := h
          obtain ⟨c1, c2⟩ := Cond.and_holds hc
          have hg := guard_sound (P := P) (E := E) (w := w) (op := .neq) ra rb hgd c1
          have heq := (eq_sound (P := P) (E := E) (w := w) 8).1 t a b c' r _ 10000 he c2 ha hb (by omega)
          simp only [Sem.run_bind, hg, Result.andThen_ok]
          rw [bin_other (.inr rfl) (fun k m k' m' e1 e2 => n1 _ _ _ _ (emb_int ra e1) (emb_int rb e2)) (fun s s' e1 e2 => n2 _ _ (emb_string ra e1) (emb_string rb e2)) (emb_not ra).1 (emb_not ra).2]
          simp [Op.equal, Op.maxDepth, heq, emb, WF]
        · simp at h
      · simp at h
    · simp at h

def binV (P : Program) (op : BinOp) (t : TypeId) (x y : Operand) (a b : V) : QR :=
  match a.isRaw with
  | true => none
  | false => match b.isRaw with
    | true => none
    | false => binV0 P op t x y a b

theorem bin_sound {op : BinOp} {t : TypeId} {x y : Operand} {a b : V} (ha : WF E H.length a) (hb : WF E H.length b) :
    QOk P E H w (do eqGuard op t x y (emb E a) (emb E b); binOp op t (emb E a) (emb E b)) (binV P op t x y a b) := by
  intro vc v h hc
  unfold binV at h
  split at h
  · simp at h
  · rename_i ra
    split at h
    · simp at h
    · rename_i rb
      exact bin0_sound ra rb ha hb vc v h hc
end
end Go.Proofs.YtonohiifmepjfaaDoor.Ev
