/-
  WHAT IS PROVED: whatever the set and the number, angeluslaw08.LinksEach returns true, and its arguments read behind the call as they did before; the library's table is laid as the program's text lays it (the card ties it).
-/
import Derived.Test.YtonohiifmepjfaaDoorL4
import Derived.Test.YtonohiifmepjfaaDoorTab
import Derived.Test.YtonohiifmepjfaaDoorTie
import Derived.Test.YtonohiifmepjfaaDoorCards
import Derived.SevenTiedAt
namespace Go.Proofs.YtonohiifmepjfaaDoor
open Go Go.RowKit Go.ChangeShapes Go.WideShapes Go.ChangeAt Ev
set_option maxHeartbeats 4000000
set_option maxRecDepth 100000

theorem word_nat {x : Int} (h : (Lit.int .u64 x).wf = true) : ∃ s : Nat, x = s ∧ s < 2 ^ 64 := by
  simp [Lit.wf, IntKind.min, IntKind.max, IntKind.signed, IntKind.bits] at h
  exact ⟨x.toNat, by omega, by omega⟩

theorem linksEach_lifted (os : Os) (started : os.Started) (H : Type) (enc : TypeId × Value → H) :
    ReturnsInHanded {} Tryd.checked os 3 .any (fun w args => (Rows.linksEachSpec.pre enc Tryd.prog Tryd.f3 [] false w args ∧ laidMet Tryd.prog [("math/bits.deBruijn64tab", Rows.laid_math_bits_deBruijn64tab)] w) ∧ sizedMet enc Tryd.prog Tryd.f3 (OpenSpec.ofChange Rows.linksEachSpec) false w args)
      (Rows.linksEachSpec.post enc Tryd.prog Tryd.f3 false true false false) := by
  refine returnsInHanded_of_change_and (C := Tryd.checked) (X := fun w _ => laidMet Tryd.prog [("math/bits.deBruijn64tab", Rows.laid_math_bits_deBruijn64tab)] w) (fun _ _ _ hh h => h.of_heap hh) own_none started (by kernel_rfl) Tryd.func3
    (ChangeSpec.witness_at (enc := enc) (C := Tryd.checked) (os := os) (X := fun w _ => laidMet Tryd.prog [("math/bits.deBruijn64tab", Rows.laid_math_bits_deBruijn64tab)] w) false (laidWorld os) #[.int .u64 0, .int .i64 0] 8 rfl (by kernel_rfl) (by kernel_rfl) (by kernel_rfl) (by kernel_rfl) (by kernel_rfl)
      (laid_at (by kernel_rfl) (by kernel_rfl) (by kernel_rfl))) ?_
  intro W base args ds gs before hval0 hW _ _ hL _
  have hval : ∀ (j : Nat) t v, Tryd.f3.params[j]? = some t → args[j]? = some v → Value.okWide Tryd.prog W .any base t v := hval0
  have hW' := hW
  obtain ⟨p, q, hA0, hV, rfl, hfz, hnd⟩ := hW
  have hA : DataW.TrodAll enc Tryd.prog W 0 (fun _ => true) true Tryd.f3.params.toList args.toList ds p := hA0
  rw [Tryd.params3] at hA hval
  obtain ⟨v0, v1, d0, d1, p0, p1, rfl, rfl, rfl, h0, h1⟩ := trodAll_two hA
  obtain ⟨rfl, rfl⟩ := trodVars_none hV
  obtain ⟨x, rfl, _, _, hx⟩ := open_int Tryd.underlying22 (hval 0 22 v0 rfl rfl) h0
  obtain ⟨most, rfl, _, _, _⟩ := open_int Tryd.underlying3 (hval 1 3 v1 rfl rfl) h1
  obtain ⟨s, rfl, hs⟩ := word_nat hx
  have hc := tab_cell hL
  refine (evF_sound hNG hmix (each_ev s most hs) (E := fun _ => ⟨0, 0, 1, 64, true⟩) (w := W) ⟨fun l o h => ?_, fun l l' o o' hne h h' ho hlv => ?_⟩ (by simp [WFs, WF])).mono ?_
  · match l, h with
    | 0, h => simp at h; subst h; exact tab_rep hc
    | l + 1, h => simp at h
  · match l, l', h, h' with
    | 0, 0, _, _ => exact absurd rfl hne
    | 0, l' + 1, _, h' => simp at h'
    | l + 1, _, h, _ => simp at h
  · rintro e W' ⟨v, G', E', rfl, rfl, _, _, x⟩
    exact ⟨_, rfl, post_true (tb := 4) laid_out (by kernel_rfl) rfl Tryd.underlying4 rfl hW' rfl (ext_below x (by simp [tabO, Ob.own]))⟩

theorem linksEach_row : Rows.LinksEachSaid :=
  OpenClaim.holds_of_wide 3 Tryd.f3 rfl rfl rfl rfl rfl rfl rfl ⟨rfl, rfl, rfl, rfl, rfl⟩ rfl rfl rfl rfl rfl (by kernel_rfl) Tryd.func3 (by kernel_rfl)
    (of_decide_eq_true (by kernel_rfl)) (by unfold Func.isWrapper; first | (rw [if_pos (by decide +kernel)]; kernel_rfl) | (rw [if_neg (by decide +kernel)]; exact ⟨rfl, rfl⟩))
    (fun os started H enc _ => linksEach_lifted os started H enc)

theorem linksEach_card : Rows.LinksEachCardSaid :=
  Claim7.holds_tied_plain_at .later [] [.data] true (true, "aa64414c7e0de76e589ddc2fff9bbd6bf1b463cbef15488a6584ed06dc218b0c") false
    linksEach_row (fun _ h => by cases h) (by kernel_rfl) (fun _ h => by cases h) linksEach_row_tie rfl ⟨rfl, rfl⟩ (by kernel_rfl) rfl
    (fun f fn hf hfn => by
      obtain rfl : f = 3 := Option.some.inj ((show Tryd.prog.funcNamed "angelus/angeluslaw08.LinksEach" = some 3 by kernel_rfl).symm.trans hf) |>.symm
      obtain rfl : fn = Tryd.f3 := (Option.some.inj (Tryd.func3.symm.trans hfn)).symm
      exact ⟨by kernel_rfl, fun j t ht => by
        rw [Tryd.params3] at ht
        have h3 : t = 22 ∨ t = 3 := by
          rcases j with _ | _ | j
          · left; simpa using ht.symm
          · right; simpa using ht.symm
          · simp at ht
        rcases h3 with rfl | rfl
        · exact (show Tryd.prog.wantsStandIn 22 = false by kernel_rfl)
        · exact (show Tryd.prog.wantsStandIn 3 = false by kernel_rfl)⟩)
    (by kernel_rfl)
#print axioms linksEach_card
end Go.Proofs.YtonohiifmepjfaaDoor
