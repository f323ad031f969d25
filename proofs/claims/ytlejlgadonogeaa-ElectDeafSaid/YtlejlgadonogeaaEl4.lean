/-
  WHAT IS PROVED: whatever the node, the rules and the script, angeluslaw15.ElectDeaf returns true, and its arguments read behind the call as they did before (for every input that can be read as data).
-/
import Derived.Test.YtlejlgadonogeaaEl3
import Derived.Test.YtlejlgadonogeaaEv22
import Derived.Test.YtlejlgadonogeaaRows
namespace Go.Proofs.Ytlejlgadonogeaa
open Go Go.RowKit Go.ChangeShapes Go.WideShapes Go.ChangeAt Ev
set_option maxHeartbeats 4000000
set_option maxRecDepth 100000

theorem own_none : ownKnob Try.prog.godebug = none := by kernel_rfl
theorem laid_out : laidOutB Try.prog = true := by kernel_rfl

theorem flat23 : flatK Try.prog 2 23 = some [.int .i64, .int .i64] := by kernel_rfl
theorem flat34 : flatK Try.prog 4 34 = some [.int .i64, .int .i64, .int .u16, .int .u16] := by kernel_rfl
theorem size34 : Try.prog.cellsOf 34 = [CK.int .i64, .int .i64, .int .u16, .int .u16].length := by kernel_rfl
theorem two_ints {cs : List Value} (h : CKs [.int .i64, .int .i64] cs) : ∃ x y, cs = [.int .i64 x, .int .i64 y] := by
  have hl := CKs_length h
  obtain ⟨c0, g0, x, hx, _⟩ := CKs_get h (j := 0) rfl
  obtain ⟨c1, g1, y, hy, _⟩ := CKs_get h (j := 1) rfl
  refine ⟨x, y, List.ext_getElem? fun k => ?_⟩
  match k with
  | 0 => rw [g0, hx]; rfl
  | 1 => rw [g1, hy]; rfl
  | k + 2 => rw [List.getElem?_eq_none (by rw [hl]; simp)]; simp

theorem electDeaf_lifted (os : Os) (started : os.Started) (H : Type) (enc : TypeId × Value → H) :
    ReturnsInHanded {} Try.checked os 3 .any (Rows.electDeafSpec.pre6 enc Try.prog Try.f3 Rows.electDeafRow.domain false) (Rows.electDeafSpec.post enc Try.prog Try.f3 false true false false) := by
  refine returnsInHanded_of_change (C := Try.checked) own_none started (by kernel_rfl) Try.func3
    (ChangeSpec.witness6 (enc := enc) (C := Try.checked) false ⟨#[], #[.int .i64 0, .agg #[.int .i64 0, .int .i64 0], .slice none 0 0], []⟩ 8 (by kernel_rfl) (by kernel_rfl) (by kernel_rfl) (by kernel_rfl)) ?_
  intro W base args ds gs before hval0 hW hcnd _
  have hval : ∀ (j : Nat) t v, Try.f3.params[j]? = some t → args[j]? = some v → Value.okWide Try.prog W .any base t v := hval0
  have hW' := hW
  obtain ⟨p, q, hA0, hV, rfl, hfz, hnd⟩ := hW
  have hA : DataW.TrodAll enc Try.prog W 0 (fun _ => true) true Try.f3.params.toList args.toList ds p := hA0
  rw [Try.params3] at hA hval
  obtain ⟨v0, v1, v2, d0, d1, d2, p0, p1, p2, rfl, rfl, rfl, h0, h1, h2⟩ := trodAll_three hA
  obtain ⟨rfl, rfl⟩ := trodVars_none hV
  obtain ⟨me, rfl, _, _, _⟩ := open_int Try.underlying3 (hval 0 3 v0 rfl rfl) h0
  obtain ⟨cs1, rfl, k1⟩ := open_flat Try.underlying23 flat23 (hval 1 23 v1 rfl rfl) h1
  obtain ⟨to, ig, rfl⟩ := two_ints k1
  have fin : ∀ (E : Env) (G : List Ob) (vs : List V) (A : Array Value), A = (embs E vs).toArray → DataW.Whole enc Try.prog Try.f3.params.toList Rows.electDeafSpec.vars false W A.toList [d0, d1, d2] [] (p0 ++ p1 ++ p2 ++ []) →
      (∀ o ∈ G, o.own = false) → evF Try.prog 60 3 vs G (fun v _ => v = .bool true) → Rep E G W → WFs E G.length vs →
      Calls Try.prog 3 A W fun e W' => ∃ v, e = .returned v ∧ Rows.electDeafSpec.post enc Try.prog Try.f3 false true false false W A v W' := by
    intro E G vs A hA hwh hno he hr hw
    subst hA
    refine (evF_sound hNG hmix he hr hw).mono ?_
    rintro e W' ⟨v, G', E', rfl, rfl, _, _, x⟩
    exact ⟨_, rfl, post_true (tb := 4) laid_out (by kernel_rfl) rfl Try.underlying4 rfl hwh rfl (ext_below x hno)⟩
  rcases open_rows Try.underlying24 flat34 size34 (hval 2 24 v2 rfl rfl) h2 with rfl | ⟨a, len, cap, rfl, hl, hm, hsp, hb, hc⟩
  · exact fin (fun _ => ⟨0, 0, 0, 0⟩) [] [.int .i64 me, .agg [.int .i64 to, .int .i64 ig], .nils] _ rfl hW' (by simp) (law_nil me to ig) ⟨fun l o h => by simp at h, fun l l' o o' _ h => by simp at h⟩ (by simp [WFs, WF])
  · have hrep := rows_rep (E := fun _ => locOf a 4 cap) (N := 1) (e := 34) hsp hb hl hc
    refine fin (fun _ => locOf a 4 cap) [.mem false 34 [] len (colsFrom W a 4 [.int .i64, .int .i64, .int .u16, .int .u16] 0)] [.int .i64 me, .agg [.int .i64 to, .int .i64 ig], .slc a cap 0 0 len] _ rfl hW' (by simp [Ob.own]) (law_ev me to ig a cap len _ _ _ _) ?_ ?_
    · refine ⟨fun l o h => ?_, fun l l' o o' hne h h' ho hlv => ?_⟩
      · match l, h with
        | 0, h => simp at h; subst h; exact hrep
        | l + 1, h => simp at h
      · match l, l', h, h' with
        | 0, 0, _, _ => exact absurd rfl hne
        | 0, l' + 1, _, h' => simp at h'
        | l + 1, _, h, _ => simp at h
    · simp [WFs, WF, locOf, Loc.at, hl]
      intro _; cases a; simp_all

theorem electDeaf_holds : Rows.ElectDeafSaid :=
  OpenClaim.holds_of_wide 3 Try.f3 rfl rfl rfl rfl rfl rfl rfl ⟨rfl, rfl, rfl, rfl, rfl⟩ rfl rfl rfl rfl rfl (by kernel_rfl) Try.func3 (by kernel_rfl)
    (of_decide_eq_true (by kernel_rfl)) (by unfold Func.isWrapper; first | (rw [if_pos (by decide +kernel)]; kernel_rfl) | (rw [if_neg (by decide +kernel)]; exact ⟨rfl, rfl⟩))
    (fun os started H enc _ => electDeaf_lifted os started H enc)
#print axioms electDeaf_holds
end Go.Proofs.Ytlejlgadonogeaa
