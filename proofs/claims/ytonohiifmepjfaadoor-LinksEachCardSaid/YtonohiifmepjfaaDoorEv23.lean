/-
  Own framework, part 23: reckoning in data: append, make, slices written out, large new variables; ranges over functions.
-/
import Derived.Test.YtonohiifmepjfaaDoorEv22
namespace Go.Proofs.YtonohiifmepjfaaDoor.Ev
open Go Go.RowKit

section
variable {P : Program} {cl : V → List V → List Ob → Cont → Prop} {op : Op} {a : LAct} {H : List Ob} {k : Cont} {cs : List Prop}

/-! ### append -/
def isNils : V → Bool
  | .nils => true
  | _ => false
def appD (P : Program) (op : Op) (a : LAct) (H : List Ob) : Option (List Prop × Option Nat × Nat × List Col × TypeId) :=
  match op with
  | .call { callee := .builtin .append, args, argTypes } => match args.toList with
    | [s, x] => match argTypes.toList with
      | [t, t'] => match Nat.beq t t' with
        | true => match a.ev s with
          | some s => match a.ev x with
            | some x => match P.underlying t with
              | some (.slice el) => match bytesOf P el with
                | some b => match szOf P el with
                  | some sz => match zeroV P el with
                    | some z => match srcOf P el H s with
                      | some (lab, cols, st, len, n) => match ownAt H el lab with
                        | true => match isNils x with
                          | false => match srcOf P el H x with
                            | some (_, cols2, st2, m, n2) => match appCols st len st2 m cols cols2 with
                              | some rs => match decide (rs.length = sz ∧ z.parts.length = sz ∧ z.parts.all V.one = true ∧ 0 < sz) with
                                | true => nF b 0 fun b => fC rs fun rs => some ([st + len ≤ n, st2 + m ≤ n2, (len + m) * b ≤ 140737488355328, len + m ≤ 9223372036854775807], lab, len + m, rs, el)
                                | false => none
                              | none => none
                            | none => none
                          | true => none
                        | false => none
                      | none => none
                    | none => none
                  | none => none
                | none => none
              | _ => none
            | none => none
          | none => none
        | false => none
      | _ => none
    | _ => none
  | _ => none
def appH (H : List Ob) : Option Nat → TypeId → Nat → List Col → List Ob
  | none, el, L, rs => H ++ [.mem true el [] L rs]
  | some l, el, L, rs => H.set l .dead ++ [.mem true el [] L rs]
theorem app_go {lab : Option Nat} {L : Nat} {rs : List Col} {el : TypeId} (h : appD P op a H = some (cs, lab, L, rs, el)) (hc : AllP cs)
    (hk : ∀ (p : Option Addr) (cap : Nat), L ≤ cap → k (.slc p cap H.length 0 L) (appH H lab el L rs)) : stepK cl P op a H k := by
  unfold appD at h
  split at h <;> try (simp at h; done)
  rename_i args argTypes
  split at h <;> try (simp at h; done)
  rename_i s0 x0 ha
  split at h <;> try (simp at h; done)
  rename_i t t' ht
  split at h <;> try (simp at h; done)
  rename_i hb
  split at h <;> try (simp at h; done)
  rename_i s hs
  split at h <;> try (simp at h; done)
  rename_i x hx
  split at h <;> try (simp at h; done)
  rename_i el' hu
  split at h <;> try (simp at h; done)
  rename_i b hbo
  split at h <;> try (simp at h; done)
  rename_i sz hsz
  split at h <;> try (simp at h; done)
  rename_i z hz
  split at h <;> try (simp at h; done)
  rename_i lab' cols st len n hsrc
  split at h <;> try (simp at h; done)
  rename_i hown
  split at h <;> try (simp at h; done)
  rename_i hnn
  split at h <;> try (simp at h; done)
  rename_i cols2 st2 m n2 hsrc2
  split at h <;> try (simp at h; done)
  rename_i rs' happ
  split at h <;> try (simp at h; done)
  rename_i hd
  rw [nF_eq, fC_eq, Nat.zero_add] at h
  simp only [Option.some.injEq, Prod.mk.injEq] at h
  obtain ⟨rfl, rfl, rfl, rfl, rfl⟩ := h
  simp only [AllP] at hc
  refine stepK_op (opK_e (by simp [qV]) ?_)
  simp only [effK, ha, ht, hb, hs, hx, appendK, hu, hbo, hsz, hz, hsrc, hown]
  cases x with
  | nils => simp [isNils] at hnn
  | slc a2 cap2 l2 st2' len2 =>
    simp only [hsrc2, happ, hd]
    refine ⟨hc.1, hc.2.1, hc.2.2.1, hc.2.2.2, ?_⟩
    cases lab' with
    | none =>
      rcases srcOf_some hsrc with ⟨_, _, rfl, rfl, rfl, _⟩ | ⟨_, _, _, _, _, _, h2, _⟩
      · intro p cap hcap
        have := hk p cap (by simpa using hcap)
        simpa [appH] using this
      · cases h2
    | some l => exact hk
  | _ => simp [srcOf] at hsrc2

/-! ### make, a slice written out -/
def mkD (P : Program) (op : Op) (a : LAct) (H : List Ob) : Option (List Prop × Nat × Nat × Ob) :=
  match op with
  | .makeSlice t n c => match a.ev n with
    | some n => match a.ev c with
      | some c => match P.underlying t with
        | some (.slice el) => match bytesOf P el with
          | some b => match szOf P el with
            | some s => match zeroV P el with
              | some z => match decide (z.parts.length = s ∧ z.parts.all V.one = true ∧ 0 < s) with
                | true => match n with
                  | .int _ n => match c with
                    | .int _ c => nF b 0 fun b => fC (z.parts.map colOf) fun cols => some ([0 ≤ n, n ≤ c, (b : Int) * c ≤ 281474976710656, c ≤ 9223372036854775807], c.toNat, n.toNat, .mem true el [] n.toNat cols)
                    | _ => none
                  | _ => none
                | false => none
              | none => none
            | none => none
          | none => none
        | _ => none
      | none => none
    | none => none
  | .buildSlice t len ps => match a.evp ps.toList with
    | some ps => match P.underlying t with
      | some (.slice el) => match szOf P el with
        | some s => match zeroV P el with
          | some z => match decide (z.parts.length = s ∧ 0 < s ∧ len * s ≤ 16777216) with
            | true => match fillV (fun i => some (i * s, s)) ((List.range (len * s)).map fun i => z.parts.getD (i % s) (.tup [])) ps with
              | some cs => match cs.all V.one with
                | true => fDs cs fun cs => fC ((List.range s).map fun j => Col.val fun i => cs.getD (i * s + j) (.tup [])) fun cols => some ([], len, len, .mem true el [] len cols)
                | false => none
              | none => none
            | false => none
          | none => none
        | none => none
      | _ => none
    | none => none
  | _ => none
theorem mk_go {cap L : Nat} {o : Ob} (h : mkD P op a H = some (cs, cap, L, o)) (hc : AllP cs) (hk : ∀ p : Addr, k (.slc (some p) cap H.length 0 L) (H ++ [o])) : stepK cl P op a H k := by
  unfold mkD at h
  split at h
  · rename_i t n0 c0
    split at h <;> try (simp at h; done)
    rename_i n hn
    split at h <;> try (simp at h; done)
    rename_i c hcc
    split at h <;> try (simp at h; done)
    rename_i el hu
    split at h <;> try (simp at h; done)
    rename_i b hb
    split at h <;> try (simp at h; done)
    rename_i s hs
    split at h <;> try (simp at h; done)
    rename_i z hz
    split at h <;> try (simp at h; done)
    rename_i hd
    split at h <;> try (simp at h; done)
    rename_i k1 n1
    split at h <;> try (simp at h; done)
    rename_i k2 c1
    rw [nF_eq, fC_eq, Nat.zero_add] at h
    simp only [Option.some.injEq, Prod.mk.injEq] at h
    obtain ⟨rfl, rfl, rfl, rfl⟩ := h
    simp only [AllP] at hc
    refine stepK_op (opK_e (by simp [qV]) ?_)
    simp only [effK, hn, hcc, makeSliceK, hu, hb, hs, hz, hd]
    exact ⟨hc.1, hc.2.1, hc.2.2.1, hc.2.2.2, hk⟩
  · rename_i t len ps
    split at h <;> try (simp at h; done)
    rename_i vs hn
    split at h <;> try (simp at h; done)
    rename_i el hu
    split at h <;> try (simp at h; done)
    rename_i s hs
    split at h <;> try (simp at h; done)
    rename_i z hz
    split at h <;> try (simp at h; done)
    rename_i hd
    split at h <;> try (simp at h; done)
    rename_i cs' hf
    split at h <;> try (simp at h; done)
    rename_i ha
    rw [fDs_eq, fC_eq] at h
    simp only [Option.some.injEq, Prod.mk.injEq] at h
    obtain ⟨rfl, rfl, rfl, rfl⟩ := h
    refine stepK_op (opK_e (by simp [qV]) ?_)
    simp only [effK, hn, buildSliceK, hu, hs, hz, hd, hf, ha]
    exact hk
  · simp at h
/-- A large new variable: what its zero value is, is shown apart. -/
theorem alloc_go {t : TypeId} {pre : List V} {n : Nat} {cols : List Col} (hs : match isAggO P t with
      | some true => match P.underlying t with
        | some (.struct _) => match szOf P t with
          | some s => Nat.ble s 40 = false
          | none => False
        | _ => True
      | _ => False) (hz : ZeroIs P t pre n cols) (hk : k (.ptr H.length 0 0) (H ++ [.mem true t pre n cols])) : stepK cl P (.alloc t) a H k := by
  refine stepK_op (opK_e (by simp [qV]) ?_)
  simp only [effK, allocK]
  split at hs <;> try exact hs.elim
  rename_i h1
  simp only [h1]
  split at hs
  · rename_i h2
    simp only [h2]
    split at hs <;> try exact hs.elim
    rename_i h3
    simp only [h3, hs]
    exact ⟨pre, n, cols, hz, hk⟩
  · rename_i h2
    split
    · rename_i h3; exact absurd h3 (h2 _)
    · exact ⟨pre, n, cols, hz, hk⟩
end

/-! ### Ranges over functions -/
section
variable {P : Program} {n : Nat} {Q : Post} {a : LAct} {H H' : List Ob} {k : Cont} {f : Operand} {ps : Array Tmp} {as bd : Code} {fn : Func} {c : Code} {ts : List V} {g : FuncId} {x : List V} {l : Nat}
/-- What follows the function that was ranged over. -/
def aftR (P : Program) (n : Nat) (rd : Option Nat) (l : Nat) (Q : Post) (a : LAct) : Cont := fun _ H' => endLoopK (evC P n) rd l Q a H'
def rangeD (a : LAct) (f : Operand) (l : Nat) : Option (FuncId × List V) :=
  match a.ev f with
  | some (.func (.func g) first cap) => fDs (first ++ [.yld l] ++ cap) fun x => some (g, x)
  | _ => none
theorem range_in {rd : Option Nat} (hr : rangeD a f l = some (g, x)) (hb : bodyOf P g = some (fn, c)) (hts : frameOf fn x = some ts)
    (h : evC P n none c (retK P fn k) ⟨ts, []⟩ H) : ∃ first cap, a.ev f = some (.func (.func g) first cap) ∧ callK P (evC P n) (.func (.func g) first cap) [.yld l] H k ∧ (rd = rd) := by
  unfold rangeD at hr
  split at hr <;> try (simp at hr; done)
  rename_i g' first cap h1
  rw [fDs_eq] at hr
  simp only [Option.some.injEq, Prod.mk.injEq] at hr
  obtain ⟨rfl, rfl⟩ := hr
  refine ⟨first, cap, h1, ?_, rfl⟩
  have hb' := hb
  unfold bodyOf at hb
  split at hb <;> try (simp at hb; done)
  rename_i fn' h2
  split at hb <;> try (simp at hb; done)
  rename_i c' h3
  simp at hb; obtain ⟨rfl, rfl⟩ := hb
  simp only [callK, h2, h3]
  rw [appF_iff, appF_iff]
  exact .text (inline_go hb' hts h)
theorem c_range {H2 : List Ob} (hl : nF H.length 0 some = some l) (hH : fL (H ++ [.dfr, .loop .ready none a.tmps ps as bd l]) some = some H2) (hr : rangeD a f (l + 1) = some (g, x)) (hb : bodyOf P g = some (fn, c)) (hts : frameOf fn x = some ts)
    (h : evC P n none c (retK P fn (aftR P n none (l + 1) Q (a.pushDf l))) ⟨ts, []⟩ H2) : evC P (n + 1) none (.rangeFunc f ps as bd) Q a H := by
  rw [nF_eq, Nat.zero_add] at hl; injection hl with hl
  rw [fL_eq] at hH; injection hH with hH
  obtain ⟨first, cap, h1, h2, _⟩ := range_in (rd := none) hr hb hts h
  refine .go ?_
  simp only [h1]
  rw [lenF_iff, Nat.zero_add, appF_iff, hl, hH]
  exact h2
theorem c_range_in {H2 : List Ob} {l0 d0 : Nat} {st : LoopState} {pd : Option Code} {ts0 : List V} {ps0 : Array Tmp} {as0 bd0 : Code} (h0 : H[l0]? = some (.loop st pd ts0 ps0 as0 bd0 d0)) (hl : nF H.length 0 some = some l) (hH : fL (H ++ [.loop .ready none a.tmps ps as bd d0]) some = some H2)
    (hr : rangeD a f l = some (g, x)) (hb : bodyOf P g = some (fn, c)) (hts : frameOf fn x = some ts)
    (h : evC P n none c (retK P fn (aftR P n (some l0) l Q a)) ⟨ts, []⟩ H2) : evC P (n + 1) (some l0) (.rangeFunc f ps as bd) Q a H := by
  rw [nF_eq, Nat.zero_add] at hl; injection hl with hl
  rw [fL_eq] at hH; injection hH with hH
  obtain ⟨first, cap, h1, h2, _⟩ := range_in (rd := none) hr hb hts h
  refine .go ?_
  simp only [h1, h0]
  rw [lenF_iff, Nat.zero_add, appF_iff, hl, hH]
  exact h2
/-- A code in plain sight. -/
def fCode {β : Type} : Code → (Code → β) → β
  | .skip, k => k .skip
  | .label l, k => k (.label l)
  | .goto l, k => k (.goto l)
  | .region i o d, k => k (.region i o d)
  | .seq x y, k => k (.seq x y)
  | .cond o x y, k => k (.cond o x y)
  | .block i c, k => k (.block i c)
  | .loop c, k => k (.loop c)
  | .exit i, k => k (.exit i)
  | .ret, k => k .ret
  | c, k => k c
theorem fCode_eq {β : Type} {c : Code} {k : Code → β} : fCode c k = k c := by cases c <;> rfl
def roundB (l : Nat) (k : Cont) : Post := fun e _ H => match e with
  | .normal => endK l none k H
  | .ret => endK l (some .ret) k H
  | .exit id => endK l (some (.exit id)) k H
  | .goto t => endK l (some (.goto t)) k H
  | _ => False
def roundA (P : Program) (n : Nat) (l : Nat) (bd : Code) (k : Cont) : Post := fun e a H => match e with
  | .normal => match H[l]? with
    | some (.loop .ready pd ts ps as' bd' d) => setF H l (.loop .busy pd ts ps as' bd' d) fun H => evC P n (some l) bd (roundB l k) a H
    | _ => False
  | _ => False
def yldD (op : Op) (a : LAct) (H : List Ob) : Option (Nat × List V × Code × Code) :=
  match op with
  | .call { callee := .value f, args, argTypes := _ } => match a.ev f with
    | some (.yld l) => match a.evs args.toList with
      | some vs => match H[l]? with
        | some (.loop .ready _ ts ps as bd _) => match Nat.beq vs.length ps.size with
          | true => fL (setTmps ts ps.toList vs) fun ts => fCode as fun as => fCode bd fun bd => some (l, ts, as, bd)
          | false => none
        | _ => none
      | none => none
    | _ => none
  | _ => none
theorem yld_go {op : Op} (h : yldD op a H = some (l, ts, as, bd)) (hk : evC P n (some l) as (roundA P n l bd k) ⟨ts, []⟩ H) : stepK (callK P (evC P n)) P op a H k := by
  unfold yldD at h
  split at h <;> try (simp at h; done)
  rename_i f0 args tys
  split at h <;> try (simp at h; done)
  rename_i l0 h1
  split at h <;> try (simp at h; done)
  rename_i vs h2
  split at h <;> try (simp at h; done)
  rename_i pd ts0 ps0 as0 bd0 d0 h3
  split at h <;> try (simp at h; done)
  rename_i h4
  rw [fL_eq, fCode_eq, fCode_eq] at h
  simp only [Option.some.injEq, Prod.mk.injEq] at h
  obtain ⟨rfl, rfl, rfl, rfl⟩ := h
  simp only [stepK, h1, h2, callK, roundK, h3, h4, frcL_iff]
  exact hk
def setLD (H : List Ob) (l : Nat) (st : LoopState) (pd' : Option (Option Code)) : Option (List Ob) :=
  match H[l]? with
  | some (.loop _ pd ts ps as bd d) => sL H l (.loop st (match pd' with | some p => p | none => pd) ts ps as bd d) some
  | _ => none
def isReady (H : List Ob) (l : Nat) : Bool := match H[l]? with
  | some (.loop .ready _ _ _ _ _ _) => true
  | _ => false
theorem roundA_go {H2 : List Ob} (hr : isReady H l = true) (hH : setLD H l .busy none = some H2) (h : evC P n (some l) bd (roundB l k) a H2) : roundA P n l bd k .normal a H := by
  unfold isReady at hr
  split at hr <;> try (simp at hr; done)
  rename_i pd ts ps as0 bd0 d h0
  simp only [setLD, h0, sL_eq, Option.some.injEq] at hH
  simp only [roundA, h0, setF_iff]
  rw [hH]; exact h
theorem roundB_n {H2 : List Ob} (hH : setLD H l .ready (some none) = some H2) (h : k (.bool true) H2) : roundB l k .normal a H := by
  unfold setLD at hH
  split at hH <;> try (simp at hH; done)
  rename_i h0
  simp only [sL_eq, Option.some.injEq] at hH
  simp only [roundB, endK, h0, setF_iff]
  rw [hH]; exact h
theorem roundB_r {H2 : List Ob} (hH : setLD H l .done (some (some .ret)) = some H2) (h : k (.bool false) H2) : roundB l k .ret a H := by
  unfold setLD at hH
  split at hH <;> try (simp at hH; done)
  rename_i h0
  simp only [sL_eq, Option.some.injEq] at hH
  simp only [roundB, endK, h0, setF_iff]
  rw [hH]; exact h
theorem roundB_e {H2 : List Ob} {id : Nat} (hH : setLD H l .done (some (some (.exit id))) = some H2) (h : k (.bool false) H2) : roundB l k (.exit id) a H := by
  unfold setLD at hH
  split at hH <;> try (simp at hH; done)
  rename_i h0
  simp only [sL_eq, Option.some.injEq] at hH
  simp only [roundB, endK, h0, setF_iff]
  rw [hH]; exact h
def endD2 (H : List Ob) (l : Nat) : Option (Option Code × List Ob) :=
  match H[l]? with
  | some (.loop st pd ts ps as bd d) => match st with
    | .busy => none
    | _ => match pd with
      | none => sL H l (.loop .exhausted none ts ps as bd d) fun H => some (none, H)
      | some c => fCode c fun c => sL H l (.loop .exhausted (some c) ts ps as bd d) fun H => some (some c, H)
  | _ => none
theorem aftR_n {rd : Option Nat} {v : V} {H2 H3 : List Ob} (hn : fH H some = some H2) (hH : endD2 H2 l = some (none, H3)) (h : Q .normal a H3) : aftR P n rd l Q a v H := by
  rw [fH_eq] at hn; injection hn with hn; subst hn
  unfold endD2 at hH
  split at hH <;> try (simp at hH; done)
  rename_i st pd ts ps as bd d h0
  unfold aftR endLoopK
  rw [h0]
  cases st <;> simp only at hH ⊢ <;> try (simp at hH; done)
  all_goals
    cases pd with
    | none => simp only [sL_eq, Option.some.injEq, Prod.mk.injEq, true_and] at hH; simp only [setF_iff]; rw [hH]; exact h
    | some c => simp [fCode_eq, sL_eq] at hH
theorem aftR_c {rd : Option Nat} {v : V} {H2 H3 : List Ob} {c : Code} (hn : fH H some = some H2) (hH : endD2 H2 l = some (some c, H3)) (h : evC P n rd c Q a H3) : aftR P n rd l Q a v H := by
  rw [fH_eq] at hn; injection hn with hn; subst hn
  unfold endD2 at hH
  split at hH <;> try (simp at hH; done)
  rename_i st pd ts ps as bd d h0
  unfold aftR endLoopK
  rw [h0]
  cases st <;> simp only at hH ⊢ <;> try (simp at hH; done)
  all_goals
    cases pd with
    | none => simp [sL_eq] at hH
    | some c' => simp only [fCode_eq, sL_eq, Option.some.injEq, Prod.mk.injEq] at hH; obtain ⟨rfl, hH⟩ := hH; simp only [setF_iff]; rw [hH]; exact h
end
end Go.Proofs.YtonohiifmepjfaaDoor.Ev
