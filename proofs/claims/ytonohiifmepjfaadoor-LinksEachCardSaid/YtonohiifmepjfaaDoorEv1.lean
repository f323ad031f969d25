/-
  Own framework, part 1: values with labels for addresses, memory as a list of objects, and what it says of a world.
-/
import Derived.RangeFuncLeaves
import Derived.OrdersIn
import Derived.Below
import Derived.Laws.Cells
import Derived.Laws.Entries
import Derived.KernelRfl
namespace Go.Proofs.YtonohiifmepjfaaDoor.Ev
open Go Go.RowKit

inductive V where
  | bool (b : Bool)
  | int (k : IntKind) (n : Int)
  | str (s : ByteArray)
  | ptr (l e c : Nat)
  | nilp
  | slc (a : Option Addr) (cap : Nat) (l st len : Nat)
  | nils
  | map (l : Nat)
  | nilm
  | func (fn : Fn) (first captured : List V)
  | yld (l : Nat)
  | nilf
  | iface (t : TypeId) (v : V)
  | nili
  | agg (cs : List V)
  | tup (vs : List V)
  | raw (v : Value)
  deriving Inhabited

structure Loc where
  block : Nat
  off : Nat
  stride : Nat
  cap : Nat
  real : Bool := true

abbrev Env := Nat → Loc

def Loc.at (L : Loc) (e c : Nat) : Addr := ⟨L.block, L.off + e * L.stride + c, none⟩

mutual
def emb (E : Env) : V → Value
  | .bool b => .bool b
  | .int k n => .int k n
  | .str s => .string s
  | .ptr l e c => .pointer (some ((E l).at e c))
  | .nilp => .pointer none
  | .slc a cap _ _ len => .slice a len cap
  | .nils => .slice none 0 0
  | .map l => .map (some (E l).block)
  | .nilm => .map none
  | .func fn f c => .func fn (embs E f).toArray (embs E c).toArray
  | .yld l => .func (.yield (E l).block) #[] #[]
  | .nilf => .nilFunc
  | .iface t v => .iface t (emb E v)
  | .nili => .nilIface
  | .agg cs => .agg (embs E cs).toArray
  | .tup vs => .tuple (embs E vs).toArray
  | .raw v => v
def embs (E : Env) : List V → List Value
  | [] => []
  | v :: vs => emb E v :: embs E vs
end

theorem embs_eq (E : Env) : ∀ vs : List V, embs E vs = vs.map (emb E)
  | [] => by simp [embs]
  | v :: vs => by simp [embs, embs_eq E vs]

mutual
def WF (E : Env) (N : Nat) : V → Prop
  | .ptr l _ _ => l < N
  | .slc a cap l st len => l < N ∧ len ≤ cap ∧ st + cap ≤ (E l).cap ∧ (0 < cap → a = some ((E l).at st 0) ∧ (E l).real = true)
  | .map l => l < N
  | .yld l => l < N
  | .func _ f c => WFs E N f ∧ WFs E N c
  | .iface _ v => WF E N v
  | .agg cs => WFs E N cs
  | .tup cs => WFs E N cs
  | _ => True
def WFs (E : Env) (N : Nat) : List V → Prop
  | [] => True
  | v :: vs => WF E N v ∧ WFs E N vs
end

theorem WFs_iff {E : Env} {N : Nat} : ∀ {vs : List V}, WFs E N vs ↔ ∀ v ∈ vs, WF E N v
  | [] => by simp [WFs]
  | v :: vs => by simp [WFs, WFs_iff (vs := vs)]

mutual
theorem emb_ext {E E' : Env} {N : Nat} (h : ∀ l, l < N → E' l = E l) : ∀ v : V, WF E N v → emb E' v = emb E v
  | .ptr l _ _, hw => by simp only [WF] at hw; simp only [emb, h l hw]
  | .map l, hw => by simp only [WF] at hw; simp only [emb, h l hw]
  | .yld l, hw => by simp only [WF] at hw; simp only [emb, h l hw]
  | .func _ f c, hw => by simp only [WF] at hw; simp only [emb, embs_ext h f hw.1, embs_ext h c hw.2]
  | .iface _ v, hw => by simp only [WF] at hw; simp only [emb, emb_ext h v hw]
  | .agg cs, hw => by simp only [WF] at hw; simp only [emb, embs_ext h cs hw]
  | .tup cs, hw => by simp only [WF] at hw; simp only [emb, embs_ext h cs hw]
  | .bool _, _ | .int _ _, _ | .str _, _ | .nilp, _ | .slc _ _ _ _ _, _ | .nils, _ | .nilm, _ | .nilf, _ | .nili, _ | .raw _, _ => by simp only [emb]
theorem embs_ext {E E' : Env} {N : Nat} (h : ∀ l, l < N → E' l = E l) : ∀ vs : List V, WFs E N vs → embs E' vs = embs E vs
  | [], _ => by simp only [embs]
  | v :: vs, hw => by simp only [WFs] at hw; simp only [embs, emb_ext h v hw.1, embs_ext h vs hw.2]
end

mutual
theorem WF.ext {E E' : Env} {N N' : Nat} (h : ∀ l, l < N → E' l = E l) (hN : N ≤ N') : ∀ v : V, WF E N v → WF E' N' v
  | .ptr l _ _, hw => by simp only [WF] at hw ⊢; omega
  | .map l, hw => by simp only [WF] at hw ⊢; omega
  | .yld l, hw => by simp only [WF] at hw ⊢; omega
  | .slc _ _ l _ _, hw => by simp only [WF] at hw ⊢; rw [h l hw.1]; exact ⟨by omega, hw.2⟩
  | .func _ f c, hw => by simp only [WF] at hw ⊢; exact ⟨WFs.ext h hN f hw.1, WFs.ext h hN c hw.2⟩
  | .iface _ v, hw => by simp only [WF] at hw ⊢; exact WF.ext h hN v hw
  | .agg cs, hw => by simp only [WF] at hw ⊢; exact WFs.ext h hN cs hw
  | .tup cs, hw => by simp only [WF] at hw ⊢; exact WFs.ext h hN cs hw
  | .bool _, _ | .int _ _, _ | .str _, _ | .nilp, _ | .nils, _ | .nilm, _ | .nilf, _ | .nili, _ | .raw _, _ => by simp only [WF]
theorem WFs.ext {E E' : Env} {N N' : Nat} (h : ∀ l, l < N → E' l = E l) (hN : N ≤ N') : ∀ vs : List V, WFs E N vs → WFs E' N' vs
  | [], _ => by simp only [WFs]
  | v :: vs, hw => by simp only [WFs] at hw ⊢; exact ⟨WF.ext h hN v hw.1, WFs.ext h hN vs hw.2⟩
end

/-- Is it the value of one cell? -/
def V.one : V → Bool
  | .agg _ | .tup _ | .raw _ => false
  | _ => true

theorem emb_one {E : Env} {v : V} (h : v.one = true) : (emb E v).oneCell' = true := by
  cases v <;> simp_all [V.one, emb, Value.oneCell']

/-- A column of a row: what stands in a cell of each element. -/
inductive Col where
  | int (k : IntKind) (f : Nat → Int)
  | bool (f : Nat → Bool)
  | str (f : Nat → ByteArray)
  | val (f : Nat → V)

def Col.at : Col → Nat → V
  | .int k f, e => .int k (f e)
  | .bool f, e => .bool (f e)
  | .str f, e => .str (f e)
  | .val f, e => f e

def upd {α : Type} (f : Nat → α) (e : Nat) (x : α) : Nat → α := fun j => if j = e then x else f j

def Col.set : Col → Nat → V → Option Col
  | .int k f, e, .int k' x => if k = k' then some (.int k (upd f e x)) else none
  | .bool f, e, .bool x => some (.bool (upd f e x))
  | .str f, e, .str x => some (.str (upd f e x))
  | .val f, e, x => some (.val (upd f e x))
  | _, _, _ => none

inductive Ob where
  | mem (own : Bool) (ty : TypeId) (pre : List V) (n : Nat) (cols : List Col)
  | mp (kinds : List IntKind) (f : Int → Option (Nat → Int))
  | loop (state : LoopState) (pending : Option Code) (tmps : List V) (params : Array Tmp) (assign body : Code) (defers : Nat)
  | dfr
  | dead

def Ob.own : Ob → Bool
  | .mem o _ _ _ _ => o
  | .mp _ _ | .loop .. | .dfr => true
  | .dead => false
def Ob.live : Ob → Bool
  | .dead => false
  | _ => true

/-- The cells of a struct of whole numbers. -/
def kcells : List IntKind → Nat → (Nat → Int) → List Value
  | [], _, _ => []
  | k :: ks, j, g => .int k (g j) :: kcells ks (j + 1) g

def mget (n : Int) : List MapEntry → Option Value
  | [] => none
  | e :: es => match e.key with
    | .int .i64 m => if n == m then some e.val else mget n es
    | _ => mget n es

/-- What a map's entries say: the keys are numbers, the values structs of whole numbers. -/
def MapIs (kinds : List IntKind) (f : Int → Option (Nat → Int)) (es : List MapEntry) : Prop :=
  (∀ e ∈ es, ∃ n, e.key = .int .i64 n) ∧ ∀ n, mget n es = (f n).map fun g => .agg (kcells kinds 0 g).toArray

def RepOb (E : Env) (N : Nat) (w : World) (L : Loc) : Ob → Prop
  | .mem own ty pre n cols =>
    (L.real = true → L.block < w.heap.size) ∧ L.stride = cols.length ∧
    (∀ j v, pre[j]? = some v → w.cell? (L.at 0 j) = some (emb E v) ∧ v.one = true ∧ WF E N v) ∧
    (∀ i, i < n → ∀ j c, cols[j]? = some c → w.cell? (L.at i (pre.length + j)) = some (emb E (c.at i)) ∧ (c.at i).one = true ∧ WF E N (c.at i)) ∧
    (own = true → n ≤ L.cap ∧ (L.real = true → ∃ arr, w.heap[L.block]? = some (.cells arr ty (0, 0)) ∧ L.off + pre.length + L.cap * cols.length ≤ arr.size)) ∧
    (L.real = false → pre = [] ∧ n = 0 ∧ L.cap = 0) ∧
    (own = false → 1000000 ≤ ty → L.real = true ∧ L.block = ty - 1000000 ∧ L.off = 0)
  | .mp kinds f => L.real = true ∧ ∃ es clock, w.heap[L.block]? = some (.map es clock) ∧ MapIs kinds f es.toList
  | .loop st pd tmps ps as bd d => L.real = true ∧ d < N ∧ WFs E N tmps ∧
    ∃ fn, w.heap[L.block]? = some (.loop { state := st, pending := pd, fn, tmps := (embs E tmps).toArray, params := ps, assign := as, body := bd, defers := (E d).block })
  | .dfr => L.real = true ∧ w.heap[L.block]? = some (.deferred (some []))
  | .dead => True

structure Rep (E : Env) (H : List Ob) (w : World) : Prop where
  ob : ∀ l o, H[l]? = some o → RepOb E H.length w (E l) o
  sep : ∀ l l' o o', l ≠ l' → H[l]? = some o → H[l']? = some o' → o.own = true → o'.live = true → (E l).real = true → (E l').real = true → (E l).block ≠ (E l').block

def Owned (E : Env) (H : List Ob) (b : Nat) : Prop := ∃ l o, H[l]? = some o ∧ o.own = true ∧ (E l).real = true ∧ (E l).block = b

structure Ext (E : Env) (H : List Ob) (w : World) (E' : Env) (H' : List Ob) (w' : World) : Prop where
  len : H.length ≤ H'.length
  env : ∀ l, l < H.length → E' l = E l
  os : w'.os = w.os
  tape : w'.tape = w.tape
  output : w'.output = w.output
  size : w.heap.size ≤ w'.heap.size
  frame : ∀ b, b < w.heap.size → ¬ Owned E H b → w'.heap[b]? = w.heap[b]?
  owns : ∀ b, Owned E' H' b → Owned E H b ∨ w.heap.size ≤ b

theorem Ext.refl (E : Env) (H : List Ob) (w : World) : Ext E H w E H w :=
  ⟨Nat.le_refl _, fun _ _ => rfl, rfl, rfl, rfl, Nat.le_refl _, fun _ _ _ => rfl, fun _ h => .inl h⟩

theorem Ext.trans {E E' E'' : Env} {H H' H'' : List Ob} {w w' w'' : World} (h : Ext E H w E' H' w') (k : Ext E' H' w' E'' H'' w'') : Ext E H w E'' H'' w'' where
  len := Nat.le_trans h.len k.len
  env l hl := (k.env l (Nat.lt_of_lt_of_le hl h.len)).trans (h.env l hl)
  os := k.os.trans h.os
  tape := k.tape.trans h.tape
  output := k.output.trans h.output
  size := Nat.le_trans h.size k.size
  frame b hb hn := (k.frame b (Nat.lt_of_lt_of_le hb h.size) (fun ho => by
    rcases h.owns b ho with h1 | h1
    · exact hn h1
    · omega)).trans (h.frame b hb hn)
  owns b hb := by
    rcases k.owns b hb with h1 | h1
    · exact h.owns b h1
    · exact .inr (Nat.le_trans h.size h1)

theorem Ext.drew {E E' : Env} {H H' : List Ob} {w w' : World} (h : Ext E H w E' H' w') : Ext E H w E' H' w'.drew :=
  ⟨h.len, h.env, h.os, h.tape, h.output, h.size, h.frame, h.owns⟩

theorem RepOb.drew {E : Env} {N : Nat} {w : World} {L : Loc} {o : Ob} (h : RepOb E N w L o) : RepOb E N w.drew L o := by
  cases o <;> exact h
theorem Rep.drew {E : Env} {H : List Ob} {w : World} (h : Rep E H w) : Rep E H w.drew :=
  ⟨fun l o ho => (h.ob l o ho).drew, h.sep⟩

theorem Rep.lt {E : Env} {H : List Ob} {w : World} (h : Rep E H w) {l : Nat} {o : Ob} (ho : H[l]? = some o) (hl : o.live = true) (hre : (E l).real = true) : (E l).block < w.heap.size := by
  have := h.ob l o ho
  cases o with
  | mem own ty pre n cols => exact this.1 hre
  | mp kinds f => obtain ⟨_, es, c, hb, _⟩ := this; exact (Array.getElem?_eq_some_iff.1 hb).1
  | loop st pd ts ps as bd d => obtain ⟨_, _, _, fn, hb⟩ := this; exact (Array.getElem?_eq_some_iff.1 hb).1
  | dfr => exact (Array.getElem?_eq_some_iff.1 this.2).1
  | dead => simp [Ob.live] at hl

theorem live_of_own {o : Ob} (h : o.own = true) : o.live = true := by cases o <;> simp_all [Ob.own, Ob.live]

theorem cell_of_heap {w w' : World} {a : Addr} (h : w'.heap[a.block]? = w.heap[a.block]?) : w'.cell? a = w.cell? a := by simp only [World.cell?, h]

/-- An object's description abides a change of the world elsewhere, and more labels. -/
theorem RepOb.keep {E E' : Env} {N N' : Nat} {w w' : World} {L : Loc} {o : Ob} (h : RepOb E N w L o) (hE : ∀ l, l < N → E' l = E l) (hN : N ≤ N')
    (hb : L.real = true → w'.heap[L.block]? = w.heap[L.block]?) (hs : w.heap.size ≤ w'.heap.size) : RepOb E' N' w' L o := by
  cases hre : L.real with
  | false =>
    cases o with
    | mem own ty pre n cols =>
      obtain ⟨h1, h2, h3, h4, h5, h6⟩ := h
      obtain ⟨rfl, rfl, h7⟩ := h6.1 hre
      exact ⟨fun h => (by rw [hre] at h; cases h), h2, fun j v hj => (by simp at hj), fun i hi => (by omega), fun ho => ⟨(h5 ho).1, fun h => (by rw [hre] at h; cases h)⟩, fun _ => ⟨rfl, rfl, h7⟩, h6.2⟩
    | mp kinds f => rw [h.1] at hre; cases hre
    | loop st pd tmps ps as bd d => rw [h.1] at hre; cases hre
    | dfr => rw [h.1] at hre; cases hre
    | dead => trivial
  | true =>
    have hb := hb hre
    cases o with
    | mem own ty pre n cols =>
      obtain ⟨h1, h2, h3, h4, h5, h6⟩ := h
      refine ⟨fun h => Nat.lt_of_lt_of_le (h1 h) hs, h2, fun j v hj => ?_, fun i hi j c hj => ?_, fun ho => ?_, h6⟩
      · obtain ⟨a1, a2, a3⟩ := h3 j v hj
        exact ⟨by rw [cell_of_heap (by exact hb), a1, emb_ext hE v a3], a2, WF.ext hE hN v a3⟩
      · obtain ⟨a1, a2, a3⟩ := h4 i hi j c hj
        exact ⟨by rw [cell_of_heap (by exact hb), a1, emb_ext hE _ a3], a2, WF.ext hE hN _ a3⟩
      · obtain ⟨o1, o2⟩ := h5 ho
        refine ⟨o1, fun h => ?_⟩
        obtain ⟨arr, o3, o4⟩ := o2 h
        exact ⟨arr, by rw [hb, o3], o4⟩
    | mp kinds f =>
      obtain ⟨h0, es, c, h1, h2⟩ := h
      exact ⟨h0, es, c, by rw [hb, h1], h2⟩
    | loop st pd tmps ps as bd d =>
      obtain ⟨h0, h1, h2, fn, h3⟩ := h
      exact ⟨h0, by omega, WFs.ext hE hN _ h2, fn, by rw [hb, h3, hE d h1, embs_ext hE _ h2]⟩
    | dfr => exact ⟨hre, hb.trans h.2⟩
    | dead => trivial

end Go.Proofs.YtonohiifmepjfaaDoor.Ev
