/-
  The library's table, laid as the program's text lays it, stands in the abstract memory; a start at which it is laid.
-/
import Derived.Test.YtonohiifmepjfaaDoorL1
import Derived.Test.YtonohiifmepjfaaDoorRows
import Derived.OpenShut
import Derived.ChangeVars
import Derived.FnData
namespace Go.Proofs.YtonohiifmepjfaaDoor
open Go Go.RowKit Go.ChangeShapes Go.WideShapes Go.ChangeAt Ev
set_option maxHeartbeats 4000000
set_option maxRecDepth 100000

theorem own_none : ownKnob Tryd.prog.godebug = none := by kernel_rfl
theorem laid_out : laidOutB Tryd.prog = true := by kernel_rfl
theorem tab_name : Tryd.prog.globalNamed "math/bits.deBruijn64tab" = some 0 := by kernel_rfl
theorem tab_type : (Tryd.prog.globals[0]?).map (·.type) = some 62 := by kernel_rfl
theorem tab_cells62 : Tryd.prog.cellsOf 62 = 64 := by kernel_rfl
theorem tab_cells5 : Tryd.prog.cellsOf 5 = 1 := by kernel_rfl
def tabD : List (DataW Unit) := tabL.map fun n => .lit (.int .u8 n)
theorem tab_laid : (Rows.laid_math_bits_deBruijn64tab : DataW Unit) = .agg tabD := rfl
theorem tab_at (i : Nat) (hi : i < 64) : tabD[i]? = some (.lit (.int .u8 (tabF i))) := by
  have hl : i < tabL.length := by simpa [tabL] using hi
  simp [tabD, tabF, List.getD, hl]
theorem tab_cell {W : World} (h : laidMet Tryd.prog [("math/bits.deBruijn64tab", Rows.laid_math_bits_deBruijn64tab)] W) : ∀ i, i < 64 → W.cell? ⟨0, i, none⟩ = some (.int .u8 (tabF i)) := by
  obtain ⟨ps, ⟨g, t, cs, fuel, p, q, hg, ht, hvar, hd, _, _⟩, _, _⟩ := h
  obtain rfl := Option.some.inj (tab_name.symm.trans hg)
  obtain rfl := Option.some.inj (tab_type.symm.trans ht)
  obtain ⟨xs, m, rfl, hx, hl, hxl, hat⟩ := DataW.trod_array Tryd.underlying62 hd
  intro i hi
  have h1 := hat i hi
  rw [tab_cells5, Nat.mul_one] at h1
  have hlen : cs.toList.length = 64 := hl.trans tab_cells62
  have e : (cs.toList.drop i).take 1 = [cs.toList[i]] := by
    rw [List.drop_eq_getElem_cons (by omega)]; rfl
  rw [e, List.getElem?_eq_getElem (by omega : i < xs.length)] at h1
  obtain ⟨n, hc, hy, _⟩ := DataW.trod_int Tryd.underlying5 h1
  injection hc with hc
  rw [tab_laid] at hx
  injection hx with hx _
  injection hx with hx
  have h2 := tab_at i hi
  rw [hx, List.getElem?_map, List.getElem?_eq_getElem (by omega : i < xs.length), hy] at h2
  simp at h2
  rw [World.var?_cell hg hvar i]
  have h3 : cs[i]? = some cs.toList[i] := by rw [← Array.getElem?_toList]; exact List.getElem?_eq_getElem (by omega)
  rw [h3, hc, h2]
theorem tab_rep {W : World} {E : Env} {M : Nat} (h : ∀ i, i < 64 → W.cell? ⟨0, i, none⟩ = some (.int .u8 (tabF i))) : RepOb E M W ⟨0, 0, 1, 64, true⟩ tabO := by
  refine ⟨fun _ => ?_, rfl, fun j v hj => (by simp at hj), fun i hi j c hj => ?_, fun ho => (by cases ho), fun h => (by cases h), fun _ _ => ⟨rfl, rfl, rfl⟩⟩
  · have h0 := h 0 (by omega)
    cases hx : W.heap[0]? with
    | none => simp [World.cell?, hx] at h0
    | some o => exact (Array.getElem?_eq_some_iff.1 hx).1
  · cases j with
    | zero =>
      simp at hj; subst hj
      have := h i hi
      simpa [Loc.at, Col.at, emb, V.one, WF] using this
    | succ j => simp at hj

def cells64 : Array Value := (tabL.map fun n => Value.int .u8 n).toArray
noncomputable def laidWorld (os : Os) : World :=
  { World.holding Tryd.prog os ⟨#[], #[], []⟩ with heap := (World.holding Tryd.prog os ⟨#[], #[], []⟩).heap.modify 0 fun
      | .cells _ t frozen => .cells cells64 t frozen
      | o => o }
theorem cells64_int {off : Nat} {v : Value} (h : cells64[off]? = some v) : ∃ n, v = .int .u8 n := by
  have : (tabL.map fun n => Value.int .u8 n)[off]? = some v := by simpa [cells64] using h
  rw [List.getElem?_map] at this
  cases hx : tabL[off]? with
  | none => rw [hx] at this; simp at this
  | some n => rw [hx] at this; simp at this; exact ⟨n, this.symm⟩
theorem laid_at {W : World} (h0 : W.heap[0]? = some (.cells cells64 62 (0, 0))) (hv : W.var? Tryd.prog "math/bits.deBruijn64tab" = some cells64) (ht : DataW.trod (fun _ => ()) Tryd.prog W 0 (fun _ => true) false 8 62 cells64.toList = some (.agg tabD, [])) :
    laidMet Tryd.prog [("math/bits.deBruijn64tab", Rows.laid_math_bits_deBruijn64tab)] W := by
  refine ⟨_, ⟨0, 62, cells64, 8, [], [], tab_name, tab_type, hv, ht, rfl, rfl⟩, ?_, fun b off h => ?_⟩
  · rw [List.append_nil, List.append_nil]
    decide +kernel
  · rw [List.append_nil, List.append_nil] at h
    obtain ⟨i, _, he⟩ := MemPlace.mem_row.1 h
    injection he with e1 e2
    subst e1
    refine ⟨⟨_, _, h0⟩, fun u v hc => ?_⟩
    have : cells64[off]? = some (.iface u v) := by simpa [World.cell?, h0] using hc
    obtain ⟨n, hn⟩ := cells64_int this
    cases hn
end Go.Proofs.YtonohiifmepjfaaDoor
