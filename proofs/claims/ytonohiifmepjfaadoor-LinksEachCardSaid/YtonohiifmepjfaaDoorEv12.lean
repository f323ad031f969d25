/-
  Own framework, part 12: what is to hold ahead of code, reckoned.
-/
import Derived.Test.YtonohiifmepjfaaDoorEv11
namespace Go.Proofs.YtonohiifmepjfaaDoor.Ev
open Go Go.RowKit

/-- Either way of a bool. -/
def splitB (b : Bool) (k : Bool → Prop) : Prop := @Bool.rec (fun _ => Prop) (k false) (k true) b

theorem split_of {b : Bool} {p q : Prop} (h1 : b = true → p) (h2 : b = false → q) : @Bool.rec (fun _ => Prop) q p b := by
  cases b
  · exact h2 rfl
  · exact h1 rfl
theorem splitB_elim {b : Bool} {k : Bool → Prop} (h : splitB b k) : k b := by cases b <;> exact h

def LAct.pushDf : LAct → Nat → LAct
  | ⟨ts, ds⟩, d => ⟨ts, d :: ds⟩

/-- At a call: by a contract, or by the text. -/
inductive AtCall (p q : Prop) : Prop where
  | law (h : p)
  | text (h : q)
/-- At a loop: by what stays, or turn by turn. -/
inductive AtLoop (p q : Prop) : Prop where
  | stays (h : p)
  | turn (h : q)

abbrev Cont := V → List Ob → Prop
abbrev Post := Exit → LAct → List Ob → Prop

/-! ### What is handed on is in plain sight (so that nothing is reckoned twice) -/
def frcL {α : Type} : List α → (List α → Prop) → Prop
  | [], k => k []
  | x :: l, k => frcL l fun l' => k (x :: l')
def setF {α : Type} : List α → Nat → α → (List α → Prop) → Prop
  | [], _, _, k => k []
  | _ :: l, 0, v, k => k (v :: l)
  | x :: l, n + 1, v, k => setF l n v fun l' => k (x :: l')
def appF {α : Type} : List α → List α → (List α → Prop) → Prop
  | [], r, k => k r
  | x :: l, r, k => appF l r fun l' => k (x :: l')
def lenF {α : Type} : List α → Nat → (Nat → Prop) → Prop
  | [], n, k => k n
  | _ :: l, n, k => lenF l (n + 1) k
def natF : Nat → Nat → (Nat → Prop) → Prop
  | 0, n, k => k n
  | m + 1, n, k => natF m (n + 1) k
def frcV : V → (V → Prop) → Prop
  | .bool b, k => k (.bool b)
  | .int t n, k => k (.int t n)
  | .str s, k => k (.str s)
  | .ptr l e c, k => k (.ptr l e c)
  | .nilp, k => k .nilp
  | .slc a cap l st len, k => k (.slc a cap l st len)
  | .nils, k => k .nils
  | .map l, k => k (.map l)
  | .nilm, k => k .nilm
  | .func f x y, k => frcL x fun x => frcL y fun y => k (.func f x y)
  | .yld l, k => k (.yld l)
  | .nilf, k => k .nilf
  | .iface t v, k => k (.iface t v)
  | .nili, k => k .nili
  | .agg cs, k => frcL cs fun cs => k (.agg cs)
  | .tup vs, k => frcL vs fun vs => k (.tup vs)
  | .raw v, k => k (.raw v)
/-- A new label is a number. -/
def frcN : V → (V → Prop) → Prop
  | .ptr l e c, k => natF l 0 fun l => k (.ptr l e c)
  | .slc a cap l st len, k => natF l 0 fun l => k (.slc a cap l st len)
  | .map l, k => natF l 0 fun l => k (.map l)
  | v, k => k v
mutual
/-- A value, to the ground. -/
def frcD : V → (V → Prop) → Prop
  | .ptr l e c, k => natF l 0 fun l => k (.ptr l e c)
  | .slc a cap l st len, k => natF l 0 fun l => k (.slc a cap l st len)
  | .map l, k => natF l 0 fun l => k (.map l)
  | .yld l, k => natF l 0 fun l => k (.yld l)
  | .func f x y, k => frcDs x fun x => frcDs y fun y => k (.func f x y)
  | .iface t v, k => frcD v fun v => k (.iface t v)
  | .agg cs, k => frcDs cs fun cs => k (.agg cs)
  | .tup vs, k => frcDs vs fun vs => k (.tup vs)
  | .bool b, k => k (.bool b)
  | .int t n, k => k (.int t n)
  | .str s, k => k (.str s)
  | .nilp, k => k .nilp
  | .nils, k => k .nils
  | .nilm, k => k .nilm
  | .nilf, k => k .nilf
  | .nili, k => k .nili
  | .raw v, k => k (.raw v)
def frcDs : List V → (List V → Prop) → Prop
  | [], k => k []
  | v :: vs, k => frcD v fun v => frcDs vs fun vs => k (v :: vs)
end
def frcO : Ob → (Ob → Prop) → Prop
  | .mem own ty pre n cols, k => frcDs pre fun pre => frcL cols fun cols => k (.mem own ty pre n cols)
  | .mp ks f, k => k (.mp ks f)
  | .loop st pd ts ps as bd d, k => frcDs ts fun ts => k (.loop st pd ts ps as bd d)
  | .dfr, k => k .dfr
  | .dead, k => k .dead
def frcH : List Ob → (List Ob → Prop) → Prop
  | [], k => k []
  | o :: H, k => frcO o fun o => frcH H fun H => k (o :: H)
def putK : LAct → Option Tmp → V → (LAct → Prop) → Prop
  | ⟨ts, ds⟩, some t, v, k => setF ts t v fun ts => k ⟨ts, ds⟩
  | a, none, _, k => k a

theorem frcL_iff {α : Type} : ∀ {l : List α} {k : List α → Prop}, frcL l k ↔ k l
  | [], k => Iff.rfl
  | x :: l, k => by simp only [frcL]; exact frcL_iff
theorem setF_iff {α : Type} {v : α} : ∀ {l : List α} {n : Nat} {k : List α → Prop}, setF l n v k ↔ k (l.set n v)
  | [], n, k => by cases n <;> exact Iff.rfl
  | x :: l, 0, k => Iff.rfl
  | x :: l, n + 1, k => by simp only [setF, List.set_cons_succ]; exact setF_iff
theorem appF_iff {α : Type} {r : List α} : ∀ {l : List α} {k : List α → Prop}, appF l r k ↔ k (l ++ r)
  | [], k => Iff.rfl
  | x :: l, k => by simp only [appF, List.cons_append]; exact appF_iff
theorem lenF_iff {α : Type} : ∀ {l : List α} {n : Nat} {k : Nat → Prop}, lenF l n k ↔ k (n + l.length)
  | [], n, k => Iff.rfl
  | x :: l, n, k => by simp only [lenF, List.length_cons]; rw [lenF_iff, show n + 1 + l.length = n + (l.length + 1) by omega]
theorem natF_iff : ∀ {m n : Nat} {k : Nat → Prop}, natF m n k ↔ k (n + m)
  | 0, n, k => Iff.rfl
  | m + 1, n, k => by simp only [natF]; rw [natF_iff, show n + 1 + m = n + (m + 1) by omega]
theorem frcV_iff {v : V} {k : V → Prop} : frcV v k ↔ k v := by
  cases v <;> simp only [frcV, frcL_iff]
theorem frcN_iff {v : V} {k : V → Prop} : frcN v k ↔ k v := by
  cases v <;> simp only [frcN, natF_iff, Nat.zero_add]
mutual
theorem frcD_iff : ∀ {v : V} {k : V → Prop}, frcD v k ↔ k v
  | .ptr _ _ _, k | .slc _ _ _ _ _, k | .map _, k | .yld _, k => by simp only [frcD, natF_iff, Nat.zero_add]
  | .func f x y, k => by simp only [frcD]; rw [frcDs_iff, frcDs_iff]
  | .iface t v, k => by simp only [frcD]; rw [frcD_iff]
  | .agg cs, k => by simp only [frcD]; rw [frcDs_iff]
  | .tup cs, k => by simp only [frcD]; rw [frcDs_iff]
  | .bool _, k | .int _ _, k | .str _, k | .nilp, k | .nils, k | .nilm, k | .nilf, k | .nili, k | .raw _, k => by simp only [frcD]
theorem frcDs_iff : ∀ {vs : List V} {k : List V → Prop}, frcDs vs k ↔ k vs
  | [], k => by simp only [frcDs]
  | v :: vs, k => by simp only [frcDs]; rw [frcD_iff, frcDs_iff]
end
theorem frcO_iff {o : Ob} {k : Ob → Prop} : frcO o k ↔ k o := by
  cases o <;> simp only [frcO, frcDs_iff, frcL_iff]
theorem frcH_iff : ∀ {H : List Ob} {k : List Ob → Prop}, frcH H k ↔ k H
  | [], k => Iff.rfl
  | o :: H, k => by simp only [frcH]; rw [frcO_iff, frcH_iff]
theorem putK_iff {a : LAct} {d : Option Tmp} {v : V} {k : LAct → Prop} : putK a d v k ↔ k (a.put d v) := by
  cases a; cases d <;> simp only [putK, LAct.put, setF_iff]

/-- A guarded operation: is it wanted? (The guard's own temporary is then known.) -/
def guardK (o : Oper) (ops : List Oper) (a : LAct) (k : Bool → LAct → Prop) : Prop :=
  match o.guard with
  | none => k true a
  | some (j, want) => match ops[j]? with
    | some oj => match oj.dst with
      | some d => match a.tmps[d]? with
        | some (.bool b) => splitB b fun b' => putK a (some d) (.bool b') fun a => k (b' == want) a
        | some (.tup []) => k false a
        | _ => False
      | none => False
    | none => False

/-- The method of a dynamic type, and the receiver that it is called with. -/
def methodV (P : Program) (t : TypeId) (v : V) (name : String) : Option (FuncId × V) :=
  match P.info? t with
  | some i => match i.methods.toList.find? (·.name == name) with
    | some m => match m.path.toList with
      | [] => match m.func with
        | some (f, ptr) => match P.underlying t with
          | some (.pointer _) => match ptr with
            | true => some (f, v)
            | false => none
          | some _ => match ptr with
            | true => none
            | false => some (f, v)
          | none => none
        | none => none
      | _ => none
    | none => none
  | none => none

def stepK (cl : V → List V → List Ob → Cont → Prop) (P : Program) (op : Op) (a : LAct) (H : List Ob) (k : Cont) : Prop :=
  match op with
  | .call { callee := .value f, args, argTypes := _ } => match a.ev f with
    | some fv => match a.evs args.toList with
      | some vs => cl fv vs H k
      | none => False
    | none => False
  | .call { callee := .invoke r name, args, argTypes := _ } => match a.ev r with
    | some (.iface t v) => match a.evs args.toList with
      | some vs => match methodV P t v name with
        | some (f, u) => cl (.func (.func f) [] []) (u :: vs) H k
        | none => False
      | none => False
    | _ => False
  | op => opK P op a H fun v H' => frcL H' fun H' => frcN v fun v => k v H'

def evOps (cl : V → List V → List Ob → Cont → Prop) (P : Program) (ops : List Oper) : List Oper → LAct → List Ob → (LAct → List Ob → Prop) → Prop
  | [], a, H, k => k a H
  | o :: rest, a, H, k => guardK o ops a fun want a => match want with
    | true => stepK cl P o.op a H fun v H' => frcV v fun v => putK a o.dst v fun a => evOps cl P ops rest a H' k
    | false => putK a o.dst (.tup []) fun a => evOps cl P ops rest a H k

/-! ### Regions that draw their order -/
def isQuiet : Op → Bool
  | .move _ | .assign _ | .pick .. | .nilCheck _ | .binOp .. | .unOp .. | .convert .. | .makeInterface .. | .makeFunc .. | .load .. | .fieldAddr .. | .field .. | .indexAddr .. | .index .. | .extract .. | .slice .. | .build .. | .typeAssert .. => true
  | .call { callee := .builtin .len, .. } => true
  | .call { callee := .builtin .max, .. } => true
  | .call { callee := .builtin .min, .. } => true
  | _ => false

/-- It asks nothing of memory. -/
def isPure : Op → Bool
  | .load .. | .indexAddr .. | .slice .. => false
  | _ => true

def memN (i : Nat) : List Nat → Bool
  | [] => false
  | j :: js => match Nat.beq i j with
    | true => true
    | false => memN i js

/-- Are all that an operation waits for listed? -/
def allListed (listed : List Nat) : List Edge → Bool
  | [] => true
  | e :: es => match Region.binds .any e with
    | true => match memN e.on listed with
      | true => allListed listed es
      | false => false
    | false => allListed listed es

def readyAt (listed : List Nat) (i : Nat) (o : Oper) : Bool :=
  match memN i listed with
  | true => false
  | false => allListed listed o.after.toList

def readyL (listed : List Nat) : Nat → List Oper → List (Nat × Oper)
  | _, [] => []
  | i, o :: os => match readyAt listed i o with
    | true => (i, o) :: readyL listed (i + 1) os
    | false => readyL listed (i + 1) os

def firstQuiet : List (Nat × Oper) → Option (Nat × Oper)
  | [] => none
  | (i, o) :: r => match isQuiet o.op with
    | true => some (i, o)
    | false => firstQuiet r

/-- What comes ahead of an operation, by direct edges. -/
def isBefore (i : Nat) : List Edge → Bool
  | [] => false
  | e :: es => match Region.binds .any e with
    | true => match Nat.beq i e.on with
      | true => true
      | false => isBefore i es
    | false => isBefore i es

structure Rec where
  i : Nat
  op : Op
  act : LAct
  val : V

/-- What was read early reads the same still. -/
def recheck (P : Program) (o : Oper) (H : List Ob) : List Rec → Prop → Prop
  | [], k => k
  | r :: rs, k => match isBefore r.i o.after.toList with
    | true => recheck P o H rs k
    | false => match qV P r.op r.act H with
      | some (none, v) => v = r.val ∧ recheck P o H rs k
      | some (some c, v) => c ∧ v = r.val ∧ recheck P o H rs k
      | none => False

def evAll (f : Nat × Oper → Prop) : List (Nat × Oper) → Prop
  | [] => True
  | [x] => f x
  | x :: xs => f x ∧ evAll f xs

/-- No operation of the region chooses among channels or defers; what only reads is apart from all that it is not in order with. -/
def tame : Op → Bool
  | .select .. | .defer .. => false
  | _ => true
def freeRow (ops : Array Oper) (i : Nat) (oi : Oper) : Nat → List Oper → Bool
  | _, [] => true
  | j, oj :: r => match Nat.beq i j with
    | true => freeRow ops i oi (j + 1) r
    | false => match isBefore i oj.after.toList with
      | true => freeRow ops i oi (j + 1) r
      | false => match isBefore j oi.after.toList with
        | true => freeRow ops i oi (j + 1) r
        | false => match oi.apart ops oj with
          | true => freeRow ops i oi (j + 1) r
          | false => false
def freeAll (ops : Array Oper) : Nat → List Oper → Bool
  | _, [] => true
  | i, o :: r => match tame o.op with
    | true => match isQuiet o.op with
      | true => match freeRow ops i o 0 ops.toList with
        | true => freeAll ops (i + 1) r
        | false => false
      | false => freeAll ops (i + 1) r
    | false => false

def evDraw (cl : V → List V → List Ob → Cont → Prop) (P : Program) (ops : List Oper) : Nat → List Nat → List Rec → LAct → List Ob → (LAct → List Ob → Prop) → Prop
  | 0, listed, _, a, H, k => match readyL listed 0 ops with
    | [] => k a H
    | _ => False
  | n + 1, listed, recs, a, H, k => match readyL listed 0 ops with
    | [] => k a H
    | x :: xs => match firstQuiet (x :: xs) with
      | some (i, o) => guardK o ops a fun want a' => match want with
        | true => match qV P o.op a' H with
          | some (c, v) => frcV v fun v => putK a' o.dst v fun a'' => match isPure o.op with
            | true => match c with
              | none => evDraw cl P ops n (i :: listed) recs a'' H k
              | some c => c ∧ evDraw cl P ops n (i :: listed) recs a'' H k
            | false => match c with
              | none => evDraw cl P ops n (i :: listed) (⟨i, o.op, a', v⟩ :: recs) a'' H k
              | some c => c ∧ evDraw cl P ops n (i :: listed) (⟨i, o.op, a', v⟩ :: recs) a'' H k
          | none => False
        | false => putK a' o.dst (.tup []) fun a'' => evDraw cl P ops n (i :: listed) recs a'' H k
      | none => evAll (fun (i, o) => guardK o ops a fun want a' => match want with
          | true => stepK cl P o.op a' H fun v H' => frcV v fun v => putK a' o.dst v fun a'' => recheck P o H' recs (evDraw cl P ops n (i :: listed) recs a'' H' k)
          | false => putK a' o.dst (.tup []) fun a'' => evDraw cl P ops n (i :: listed) recs a'' H k) (x :: xs)

/-! ### Code -/
def thenL (next : LAct → List Ob → Prop) (Q : Post) : Post := fun e a H => match e with
  | .normal => next a H
  | .exit id => Q (.exit id) a H
  | .goto l => Q (.goto l) a H
  | .ret => Q .ret a H
  | .panic c => Q (.panic c) a H
  | .outgrown => Q .outgrown a H

def inBlockL (id : Nat) (Q : Post) : Post := fun e a H => match e with
  | .exit id' => match Nat.beq id' id with
    | true => Q .normal a H
    | false => Q (.exit id') a H
  | .normal => Q .normal a H
  | .goto l => Q (.goto l) a H
  | .ret => Q .ret a H
  | .panic c => Q (.panic c) a H
  | .outgrown => Q .outgrown a H

def killDfs (H : List Ob) : List Nat → Option (List Ob)
  | [] => some H
  | d :: ds => match H[d]? with
    | some .dfr => killDfs (H.set d .dead) ds
    | _ => none

def resV (P : Program) (H : List Ob) (a : LAct) : List ResultVar → Option (Cond × List V)
  | [] => some (none, [])
  | .tmp t :: rs => match a.tmps[t]? with
    | some v => match resV P H a rs with
      | some (c, vs) => some (c, v :: vs)
      | none => none
    | none => none
  | .cell t ty :: rs => match a.tmps[t]? with
    | some p => match loadV P ty H p with
      | some (c, v) => match resV P H a rs with
        | some (c', vs) => some (c.and c', v :: vs)
        | none => none
      | none => none
    | none => none

def oneRes : List V → V
  | [v] => v
  | vs => .tup vs

def retK (P : Program) (fn : Func) (k : Cont) : Post := fun e a H =>
  match e with
  | .ret | .normal => match killDfs H a.dfs with
    | some H' => frcL H' fun H' => match resV P H' a fn.results.toList with
      | some (none, vs) => frcV (oneRes vs) fun v => k v H'
      | some (some c, vs) => frcV (oneRes vs) fun v => c ∧ k v H'
      | none => False
    | none => False
  | _ => False

/-- A function's contract, as a condition on arguments and memory, proved of the machine. -/
def Sound (P : Program) (f : FuncId) (C : List V → List Ob → Cont → Prop) : Prop :=
  ∀ (args : List V) (H : List Ob) (k : Cont) (E : Env) (w : World), C args H k → Rep E H w → WFs E H.length args →
    Calls P f (embs E args).toArray w fun e w' => ∃ v H' E', e = .returned (emb E' v) ∧ k v H' ∧ Rep E' H' w' ∧ WF E' H'.length v ∧ Ext E H w E' H' w'

abbrev Ev := Option Nat → Code → Post → LAct → List Ob → Prop

def inlineK (P : Program) (ec : Ev) (f : FuncId) (args : List V) (H : List Ob) (k : Cont) : Prop :=
  match P.funcs.toList[f]? with
  | some fn => match fn.body with
    | some c => frcL (args ++ List.replicate (fn.ntmps - args.length) (.tup [])) fun ts => ec none c (retK P fn k) ⟨ts, []⟩ H
    | none => False
  | none => False

def setTmps : List V → List Tmp → List V → List V
  | ts, p :: ps, v :: vs => setTmps (ts.set p v) ps vs
  | ts, _, _ => ts

/-- The end of a round. -/
def endK (l : Nat) (jump : Option Code) (k : Cont) (H : List Ob) : Prop :=
  match H[l]? with
  | some (.loop _ _ ts ps as bd d) => match jump with
    | none => setF H l (.loop .ready none ts ps as bd d) fun H => k (.bool true) H
    | some c => setF H l (.loop .done (some c) ts ps as bd d) fun H => k (.bool false) H
  | _ => False

def roundK (ec : Ev) (l : Nat) (vs : List V) (H : List Ob) (k : Cont) : Prop :=
  match H[l]? with
  | some (.loop .ready _ ts ps as bd _) => match Nat.beq vs.length ps.size with
    | true => frcL (setTmps ts ps.toList vs) fun ts => ec (some l) as (fun e a H => match e with
      | .normal => match H[l]? with
        | some (.loop .ready pd ts ps as' bd' d) => setF H l (.loop .busy pd ts ps as' bd' d) fun H => ec (some l) bd (fun e _ H => match e with
          | .normal => endK l none k H
          | .ret => endK l (some .ret) k H
          | .exit id => endK l (some (.exit id)) k H
          | .goto t => endK l (some (.goto t)) k H
          | _ => False) a H
        | _ => False
      | _ => False) ⟨ts, []⟩ H
    | false => False
  | _ => False

def callK (P : Program) (ec : Ev) (fv : V) (vs : List V) (H : List Ob) (k : Cont) : Prop :=
  match fv with
  | .func (.func f) first captured => match P.funcs.toList[f]? with
    | some fn => match fn.body with
      | some _ => appF first vs fun x => appF x captured fun x => AtCall (∃ C, Sound P f C ∧ C x H fun v H' => frcH H' fun H' => frcD v fun v => k v H') (inlineK P ec f x H k)
      | none => False
    | none => False
  | .yld l => roundK ec l vs H k
  | _ => False

/-! ### What is no more wanted is forgotten -/
mutual
def lab (N : Nat) : V → Bool
  | .ptr l _ _ => Nat.blt l N
  | .slc _ _ l _ _ => Nat.blt l N
  | .map l => Nat.blt l N
  | .yld l => Nat.blt l N
  | .func _ f c => match labs N f with
    | true => labs N c
    | false => false
  | .iface _ v => lab N v
  | .agg cs => labs N cs
  | .tup cs => labs N cs
  | _ => true
def labs (N : Nat) : List V → Bool
  | [] => true
  | v :: vs => match lab N v with
    | true => labs N vs
    | false => false
end
def labCols (N n : Nat) : List Col → Prop
  | [] => True
  | .val f :: cs => (∀ i, i < n → lab N (f i) = true) ∧ labCols N n cs
  | _ :: cs => labCols N n cs
def labOb (N : Nat) : Ob → Prop → Prop
  | .mem _ _ pre n cols, k => match labs N pre with
    | true => match cols with
      | [] => k
      | c :: cs => labCols N n (c :: cs) ∧ k
    | false => False
  | .mp _ _, k => k
  | .dfr, k => k
  | .dead, k => k
  | .loop _ _ ts _ _ _ d, k => match labs N ts with
    | true => match Nat.blt d N with
      | true => k
      | false => False
    | false => False
def labH (N : Nat) : List Ob → Prop → Prop
  | [], k => k
  | o :: H, k => labOb N o (labH N H k)
def takeF {α : Type} : Nat → List α → (List α → Prop) → Prop
  | 0, _, k => k []
  | _ + 1, [], _ => False
  | n + 1, x :: l, k => takeF n l fun l' => k (x :: l')
/-- Kept, or anything. -/
def scrub (N : Nat) (rw : Nat → Value) : Nat → List Bool → List V → (List V → Prop) → Prop
  | _, _, [], k => k []
  | j, true :: ks, v :: vs, k => match lab N v with
    | true => scrub N rw (j + 1) ks vs fun vs => k (v :: vs)
    | false => False
  | j, false :: ks, _ :: vs, k => scrub N rw (j + 1) ks vs fun vs => k (.raw (rw j) :: vs)
  | j, [], _ :: vs, k => scrub N rw (j + 1) [] vs fun vs => k (.raw (rw j) :: vs)
def allLt (N : Nat) : List Nat → Prop → Prop
  | [], k => k
  | d :: ds, k => match Nat.blt d N with
    | true => allLt N ds k
    | false => False
/-- Objects that are no more wanted. -/
def killF : List Bool → List Ob → (List Ob → Prop) → Prop
  | true :: ks, o :: H, k => killF ks H fun H => k (o :: H)
  | false :: ks, _ :: H, k => killF ks H fun H => k (.dead :: H)
  | _, H, k => k H
def gcK (keep ko : List Bool) (N : Nat) (a : LAct) (H : List Ob) (k : LAct → List Ob → Prop) : Prop :=
  ∀ rw : Nat → Value, match a with
    | ⟨ts, ds⟩ => takeF N H fun H => killF ko H fun H => labH N H (allLt N ds (scrub N rw 0 keep ts fun ts => k ⟨ts, ds⟩ H))

/-! ### Labels renamed: what is kept at a loop's head, or at a call's end -/
mutual
def ren (r : Nat → Nat) : V → V
  | .ptr l e c => .ptr (r l) e c
  | .slc a cap l st len => .slc a cap (r l) st len
  | .map l => .map (r l)
  | .yld l => .yld (r l)
  | .func f x y => .func f (rens r x) (rens r y)
  | .iface t v => .iface t (ren r v)
  | .agg cs => .agg (rens r cs)
  | .tup vs => .tup (rens r vs)
  | .bool b => .bool b
  | .int k n => .int k n
  | .str s => .str s
  | .nilp => .nilp
  | .nils => .nils
  | .nilm => .nilm
  | .nilf => .nilf
  | .nili => .nili
  | .raw v => .raw v
def rens (r : Nat → Nat) : List V → List V
  | [] => []
  | v :: vs => ren r v :: rens r vs
end

def inS (src : List (Option Nat)) (q : Nat) : Bool :=
  match src with
  | [] => false
  | some p :: ss => match Nat.beq p q with
    | true => true
    | false => inS ss q
  | none :: ss => inS ss q
/-- Where an old label is now. -/
def rmap : List (Option Nat) → Nat → Nat
  | [], _ => 0
  | some p :: ss, q => match Nat.beq p q with
    | true => 0
    | false => rmap ss q + 1
  | none :: ss, q => rmap ss q + 1
mutual
def labS (src : List (Option Nat)) : V → Bool
  | .ptr l _ _ => inS src l
  | .slc _ _ l _ _ => inS src l
  | .map l => inS src l
  | .yld l => inS src l
  | .func _ f c => match labSs src f with
    | true => labSs src c
    | false => false
  | .iface _ v => labS src v
  | .agg cs => labSs src cs
  | .tup cs => labSs src cs
  | _ => true
def labSs (src : List (Option Nat)) : List V → Bool
  | [] => true
  | v :: vs => match labS src v with
    | true => labSs src vs
    | false => false
end
def noLab (n : Nat) : List Col → Prop
  | [] => True
  | .val f :: cs => (∀ i, i < n → lab 0 (f i) = true) ∧ noLab n cs
  | .int _ _ :: cs => noLab n cs
  | .bool _ :: cs => noLab n cs
  | .str _ :: cs => noLab n cs
def labSOb (src : List (Option Nat)) : Ob → Prop
  | .mem _ _ pre n cols => labSs src pre = true ∧ noLab n cols
  | .loop _ _ ts _ _ _ d => labSs src ts = true ∧ inS src d = true
  | .mp _ _ => True
  | .dfr => True
  | .dead => True
def mvOb (r : Nat → Nat) : Ob → Ob
  | .mem own ty pre n cols => .mem own ty (rens r pre) n cols
  | .loop st pd ts ps as bd d => .loop st pd (rens r ts) ps as bd (r d)
  | .mp ks f => .mp ks f
  | .dfr => .dfr
  | .dead => .dead
/-- The new memory: of each new label, which old object stands there. -/
def mvH (all : List (Option Nat)) (H : List Ob) : List (Option Nat) → List Ob
  | [] => []
  | none :: ss => .dead :: mvH all H ss
  | some q :: ss => (match H[q]? with
    | some o => mvOb (rmap all) o
    | none => .dead) :: mvH all H ss
/-- The first N labels stay, or die; no object is taken twice. -/
def srcA (N : Nat) : Nat → List (Option Nat) → Bool
  | _, [] => true
  | p, none :: ss => srcA N (p + 1) ss
  | p, some q :: ss => match inS ss q with
    | true => false
    | false => match Nat.blt p N with
      | true => match Nat.beq p q with
        | true => srcA N (p + 1) ss
        | false => false
      | false => srcA N (p + 1) ss
def obsS (all : List (Option Nat)) (H : List Ob) : List (Option Nat) → Prop
  | [] => True
  | none :: ss => obsS all H ss
  | some q :: ss => (match H[q]? with
    | some o => labSOb all o
    | none => True) ∧ obsS all H ss
/-- Kept and renamed, or anything. -/
def scrS (src : List (Option Nat)) (rw : Nat → Value) : Nat → List Bool → List V → List V
  | _, _, [] => []
  | j, true :: ks, v :: vs => ren (rmap src) v :: scrS src rw (j + 1) ks vs
  | j, false :: ks, _ :: vs => .raw (rw j) :: scrS src rw (j + 1) ks vs
  | j, [], _ :: vs => .raw (rw j) :: scrS src rw (j + 1) [] vs
def tmpsS (src : List (Option Nat)) : List Bool → List V → Bool
  | _, [] => true
  | true :: ks, v :: vs => match labS src v with
    | true => tmpsS src ks vs
    | false => false
  | false :: ks, _ :: vs => tmpsS src ks vs
  | [], _ :: vs => tmpsS src [] vs
def gcM (N : Nat) (a : LAct) (H : List Ob) (k : LAct → List Ob → Prop) : Prop :=
  ∀ rw : Nat → Value, ∃ (keep : List Bool) (src : List (Option Nat)), srcA N 0 src = true ∧ N ≤ src.length ∧ obsS src H src ∧ tmpsS src keep a.tmps = true ∧ (∀ d ∈ a.dfs, inS src d = true) ∧
    k ⟨scrS src rw 0 keep a.tmps, a.dfs.map (rmap src)⟩ (mvH src H src)

/-- Behind the function that was ranged over. -/
def endLoopK (ec : Ev) (rd : Option Nat) (l : Nat) (Q : Post) (a : LAct) (H : List Ob) : Prop :=
  match H[l]? with
  | some (.loop .busy _ _ _ _ _ _) => False
  | some (.loop _ pd ts ps as bd d) => match pd with
    | none => setF H l (.loop .exhausted none ts ps as bd d) fun H => Q .normal a H
    | some c => setF H l (.loop .exhausted (some c) ts ps as bd d) fun H => ec rd c Q a H
  | _ => False

/-! ### nil told as a row that nothing stands behind -/
def nilS : List (Option Nat) → List V → List V
  | [], vs => vs
  | _ :: _, [] => []
  | o :: ns, v :: vs => (match o with
    | some l => match v with
      | .nils => .slc none 0 l 0 0
      | v => v
    | none => v) :: nilS ns vs
def okN (N : Nat) : List (Option Nat) → Bool
  | [] => true
  | none :: ns => okN N ns
  | some l :: ns => match Nat.blt l N with
    | true => okN N ns
    | false => false
def okNs (N : Nat) : List (Nat × List (Option Nat)) → Bool
  | [] => true
  | (_, ns) :: os => match okN N ns with
    | true => okNs N os
    | false => false
def nilOb (ns : List (Option Nat)) : Ob → Ob
  | .mem own ty pre n cols => .mem own ty (nilS ns pre) n cols
  | .mp ks f => .mp ks f
  | .loop st pd ts ps as bd d => .loop st pd ts ps as bd d
  | .dfr => .dfr
  | .dead => .dead
def nilH : List (Nat × List (Option Nat)) → List Ob → List Ob
  | [], H => H
  | (l, ns) :: os, H => nilH os (match H[l]? with
    | some o => H.set l (nilOb ns o)
    | none => H)
def ghosts : List (TypeId × List Col) → List Ob
  | [] => []
  | (t, cs) :: gs => .mem true t [] 0 cs :: ghosts gs
def convK (a : LAct) (H : List Ob) (k : LAct → List Ob → Prop) : Prop :=
  ∃ (gs : List (TypeId × List Col)) (ts : List (Option Nat)) (os : List (Nat × List (Option Nat))), okN (H.length + gs.length) ts = true ∧ okNs (H.length + gs.length) os = true ∧ k ⟨nilS ts a.tmps, a.dfs⟩ (nilH os (H ++ ghosts gs))
inductive AtConv (p q : Prop) : Prop where
  | row (h : p)
  | go (h : q)

def evC (P : Program) : Nat → Ev
  | 0, _, _, _, _, _ => False
  | n + 1, rd, code, Q, a, H => AtConv (convK a H fun a H => evC P n rd code Q a H) <| match code with
    | .skip => Q .normal a H
    | .label _ => Q .normal a H
    | .region _ ops draw => match draw with
      | false => evOps (callK P (evC P n)) P ops.toList ops.toList a H fun a H => Q .normal a H
      | true => match freeAll ops 0 ops.toList with
        | true => evDraw (callK P (evC P n)) P ops.toList ops.toList.length [] [] a H fun a H => Q .normal a H
        | false => False
    | .seq x y => evC P n rd x (thenL (evC P n rd y Q) Q) a H
    | .cond c x y => match a.ev c with
      | some (.bool b) => splitB b fun b' => match b' with
        | true => evC P n rd x Q a H
        | false => evC P n rd y Q a H
      | _ => False
    | .block id body => evC P n rd body (inBlockL id Q) a H
    | .loop body =>
      AtLoop (∃ (I : Nat → LAct → List Ob → Prop) (m : Nat), gcM H.length a H (I m) ∧ ∀ m a' H', I m a' H' → evC P n rd body (thenL (fun a' H' => gcM H.length a' H' fun a' H' => ∃ m', m' < m ∧ I m' a' H') Q) a' H')
        (evC P n rd body (thenL (evC P n rd (.loop body) Q) Q) a H)
    | .exit id => Q (.exit id) a H
    | .ret => Q .ret a H
    | .rangeFunc f ps as bd => match a.ev f with
      | some (.func (.func g) first cap) => match rd with
        | none => lenF H 0 fun l => appF H [.dfr, .loop .ready none a.tmps ps as bd l] fun H => callK P (evC P n) (.func (.func g) first cap) [.yld (l + 1)] H fun _ H' => endLoopK (evC P n) rd (l + 1) Q (a.pushDf l) H'
        | some l0 => match H[l0]? with
          | some (.loop _ _ _ _ _ _ d0) => lenF H 0 fun l => appF H [.loop .ready none a.tmps ps as bd d0] fun H => callK P (evC P n) (.func (.func g) first cap) [.yld l] H fun _ H' => endLoopK (evC P n) rd l Q a H'
          | _ => False
      | _ => False
    | _ => False

/-- A call of a function, its text followed. -/
def evF (P : Program) (n : Nat) (f : FuncId) (args : List V) (H : List Ob) (k : Cont) : Prop := inlineK P (evC P n) f args H k
end Go.Proofs.YtonohiifmepjfaaDoor.Ev
