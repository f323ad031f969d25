/-
  The document's example of layer 8 holds.
-/
import Derived.Test.YtonohiifmepjfaaDoorL2
namespace Go.Proofs.YtonohiifmepjfaaDoor
open Go Go.RowKit Ev
set_option maxHeartbeats 40000000
set_option maxRecDepth 100000

theorem alive_ev : evF Tryd.prog 80 9 [] [tabO] (gcS 1 fun v H => v = .bool true ∧ H = [tabO]) := by
  ((with_reducible refine evF_go (by with_unfolding_all exact rfl) (by with_unfolding_all exact rfl) ?_); repeat' (first
      | with_reducible refine c_seq ?_
      | with_reducible refine p_then_n ?_
      | with_reducible refine p_nrm ?_
      | with_reducible refine c_region (by with_unfolding_all exact rfl) ?_
      | with_reducible refine ops_run (by with_unfolding_all exact rfl) (by with_unfolding_all exact rfl) (by with_unfolding_all first | exact trivial | (simp only [AllP, addC, Cond.and, List.cons_append, List.nil_append]; repeat' (first | assumption | exact rfl | refine And.intro ?_ ?_ | omega | (simp only [decide_eq_true_eq, decide_eq_false_iff_not] at *; omega) | decide +kernel)); done) ?_
      | with_reducible refine ops_nil ?_
      | with_reducible refine ops_step (by with_unfolding_all exact rfl) (call_text (by with_unfolding_all exact rfl) (by with_unfolding_all exact rfl) (by with_unfolding_all exact rfl) ?_)
      | with_reducible refine one_step (by with_unfolding_all exact rfl) (call_text (by with_unfolding_all exact rfl) (by with_unfolding_all exact rfl) (by with_unfolding_all exact rfl) ?_)
      | with_reducible refine aft_go (by with_unfolding_all exact rfl) ?_
      | (with_reducible refine ops_step (by with_unfolding_all exact rfl) (look_go (by with_unfolding_all exact rfl) (fun g h => ?_) (fun h => ?_)) <;> (try (exfalso; simp at h; done)))
      | (with_reducible refine one_step (by with_unfolding_all exact rfl) (look_go (by with_unfolding_all exact rfl) (fun g h => ?_) (fun h => ?_)) <;> (try (exfalso; simp at h; done)))
      | with_reducible refine c_draw (by with_unfolding_all exact rfl) (by with_unfolding_all exact rfl) (by with_unfolding_all exact rfl) ?_
      | with_reducible refine draw_run (by with_unfolding_all exact rfl) (by with_unfolding_all exact rfl) (by with_unfolding_all first | exact trivial | (simp only [AllP, addC, Cond.and, List.cons_append, List.nil_append]; repeat' (first | assumption | exact rfl | refine And.intro ?_ ?_ | omega | (simp only [decide_eq_true_eq, decide_eq_false_iff_not] at *; omega) | decide +kernel)); done) ?_
      | with_reducible refine draw_done (by with_unfolding_all exact rfl) ?_
      | with_reducible refine draw_many (by with_unfolding_all exact rfl) (by with_unfolding_all exact rfl) ?_
      | with_reducible refine allD_one ?_
      | with_reducible refine one_step (by with_unfolding_all exact rfl) (stp_eff (by with_unfolding_all exact rfl) (by with_unfolding_all exact rfl) (by with_unfolding_all first | exact trivial | (simp only [AllP, addC, Cond.and, List.cons_append, List.nil_append]; repeat' (first | assumption | exact rfl | refine And.intro ?_ ?_ | omega | (simp only [decide_eq_true_eq, decide_eq_false_iff_not] at *; omega) | decide +kernel)); done) ?_)
      | with_reducible refine aftD_go (by with_unfolding_all exact rfl) (by with_unfolding_all exact rfl) (by with_unfolding_all first | exact trivial | (simp only [AllP, addC, Cond.and, List.cons_append, List.nil_append]; repeat' (first | assumption | exact rfl | refine And.intro ?_ ?_ | omega | (simp only [decide_eq_true_eq, decide_eq_false_iff_not] at *; omega) | decide +kernel)); done) ?_
      | with_reducible refine allD_more ?_ ?_
      | with_reducible refine ops_step (by with_unfolding_all exact rfl) (app_go (by with_unfolding_all exact rfl) (by with_unfolding_all first | exact trivial | (simp only [AllP, addC, Cond.and, List.cons_append, List.nil_append]; repeat' (first | assumption | exact rfl | refine And.intro ?_ ?_ | omega | (simp only [decide_eq_true_eq, decide_eq_false_iff_not] at *; omega) | decide +kernel)); done) (fun p cap hcap => ?_))
      | with_reducible refine ops_step (by with_unfolding_all exact rfl) (mk_go (by with_unfolding_all exact rfl) (by with_unfolding_all first | exact trivial | (simp only [AllP, addC, Cond.and, List.cons_append, List.nil_append]; repeat' (first | assumption | exact rfl | refine And.intro ?_ ?_ | omega | (simp only [decide_eq_true_eq, decide_eq_false_iff_not] at *; omega) | decide +kernel)); done) (fun p => ?_))
      | with_reducible refine ops_step (by with_unfolding_all exact rfl) (yld_go (by with_unfolding_all exact rfl) ?_)
      | with_reducible refine one_step (by with_unfolding_all exact rfl) (app_go (by with_unfolding_all exact rfl) (by with_unfolding_all first | exact trivial | (simp only [AllP, addC, Cond.and, List.cons_append, List.nil_append]; repeat' (first | assumption | exact rfl | refine And.intro ?_ ?_ | omega | (simp only [decide_eq_true_eq, decide_eq_false_iff_not] at *; omega) | decide +kernel)); done) (fun p cap hcap => ?_))
      | with_reducible refine one_step (by with_unfolding_all exact rfl) (mk_go (by with_unfolding_all exact rfl) (by with_unfolding_all first | exact trivial | (simp only [AllP, addC, Cond.and, List.cons_append, List.nil_append]; repeat' (first | assumption | exact rfl | refine And.intro ?_ ?_ | omega | (simp only [decide_eq_true_eq, decide_eq_false_iff_not] at *; omega) | decide +kernel)); done) (fun p => ?_))
      | with_reducible refine one_step (by with_unfolding_all exact rfl) (yld_go (by with_unfolding_all exact rfl) ?_)
      | with_reducible refine c_range (by with_unfolding_all exact rfl) (by with_unfolding_all exact rfl) (by with_unfolding_all exact rfl) (by with_unfolding_all exact rfl) (by with_unfolding_all exact rfl) ?_
      | with_reducible refine c_range_in (by with_unfolding_all exact rfl) (by with_unfolding_all exact rfl) (by with_unfolding_all exact rfl) (by with_unfolding_all exact rfl) (by with_unfolding_all exact rfl) (by with_unfolding_all exact rfl) ?_
      | with_reducible refine roundA_go (by with_unfolding_all exact rfl) (by with_unfolding_all exact rfl) ?_
      | with_reducible refine roundB_n (by with_unfolding_all exact rfl) ?_
      | with_reducible refine roundB_r (by with_unfolding_all exact rfl) ?_
      | with_reducible refine roundB_e (by with_unfolding_all exact rfl) ?_
      | with_reducible refine aftR_n (by with_unfolding_all exact rfl) (by with_unfolding_all exact rfl) ?_
      | with_reducible refine aftR_c (by with_unfolding_all exact rfl) (by with_unfolding_all exact rfl) ?_
      | with_reducible refine c_byt (by with_unfolding_all exact rfl) (by decide +kernel) ?_
      | with_reducible refine c_byf (by with_unfolding_all exact rfl) (by decide +kernel) ?_
      | with_reducible refine c_t (by with_unfolding_all exact rfl) ?_
      | with_reducible refine c_f (by with_unfolding_all exact rfl) ?_
      | with_reducible refine c_ret ?_
      | with_reducible refine c_exit ?_
      | with_reducible refine c_skip ?_
      | with_reducible refine c_block ?_
      | with_reducible refine p_then_r ?_
      | with_reducible refine p_then_e ?_
      | with_reducible refine p_blk_n ?_
      | with_reducible refine p_blk_r ?_
      | with_reducible refine p_blk_hit (by with_unfolding_all exact rfl) ?_
      | with_reducible refine p_blk_miss (by with_unfolding_all exact rfl) ?_
      | with_reducible refine p_ret (by with_unfolding_all exact rfl) (by with_unfolding_all first | exact trivial | (simp only [AllP, addC, Cond.and, List.cons_append, List.nil_append]; repeat' (first | assumption | exact rfl | refine And.intro ?_ ?_ | omega | (simp only [decide_eq_true_eq, decide_eq_false_iff_not] at *; omega) | decide +kernel)); done) ?_
      | with_reducible refine p_ret_n (by with_unfolding_all exact rfl) (by with_unfolding_all first | exact trivial | (simp only [AllP, addC, Cond.and, List.cons_append, List.nil_append]; repeat' (first | assumption | exact rfl | refine And.intro ?_ ?_ | omega | (simp only [decide_eq_true_eq, decide_eq_false_iff_not] at *; omega) | decide +kernel)); done) ?_
      | with_reducible refine ops_lit (by with_unfolding_all exact rfl) (by with_unfolding_all exact rfl) (by with_unfolding_all exact rfl) (by with_unfolding_all exact rfl) (by with_unfolding_all first | exact trivial | (simp only [AllP, addC, Cond.and, List.cons_append, List.nil_append]; repeat' (first | assumption | exact rfl | refine And.intro ?_ ?_ | omega | (simp only [decide_eq_true_eq, decide_eq_false_iff_not] at *; omega) | decide +kernel)); done) ?_
      | with_reducible refine c_byt (by with_unfolding_all exact rfl) (by assumption) ?_
      | with_reducible refine c_byf (by with_unfolding_all exact rfl) (by assumption) ?_
      | with_reducible refine draw_lit (by with_unfolding_all exact rfl) (by with_unfolding_all exact rfl) (by with_unfolding_all exact rfl) (by with_unfolding_all exact rfl) (by with_unfolding_all exact rfl) (by with_unfolding_all first | exact trivial | (simp only [AllP, addC, Cond.and, List.cons_append, List.nil_append]; repeat' (first | assumption | exact rfl | refine And.intro ?_ ?_ | omega | (simp only [decide_eq_true_eq, decide_eq_false_iff_not] at *; omega) | decide +kernel)); done) ?_
      | with_reducible refine draw_by (r := true) (by with_unfolding_all exact rfl) (by with_unfolding_all exact rfl) (by assumption) (by with_unfolding_all exact rfl) ?_
      | with_reducible refine draw_by (r := false) (by with_unfolding_all exact rfl) (by with_unfolding_all exact rfl) (by assumption) (by with_unfolding_all exact rfl) ?_
      | with_reducible refine ops_by (r := true) (by with_unfolding_all exact rfl) (by assumption) (by with_unfolding_all exact rfl) ?_
      | with_reducible refine ops_by (r := false) (by with_unfolding_all exact rfl) (by assumption) (by with_unfolding_all exact rfl) ?_
      | with_reducible refine c_turn ?_))
  (with_reducible refine gcS_go [some 0] (by with_unfolding_all exact rfl) (by with_unfolding_all exact trivial) ?_)
  exact ⟨congrArg V.bool (by decide +kernel), rfl⟩
theorem alive_sound : Sound Tryd.prog 9 fun args H k => ∃ l : Nat, args = [] ∧ H[l]? = some tabO ∧ k (.bool true) H := by
  refine sound_small hNG hmix ?_
  rintro args H k ⟨l, rfl, h1, hk⟩
  refine ⟨80, _, _, [l], _, alive_ev, rfl, stands_of (by simp) ⟨h1, trivial⟩, ⟨trivial, trivial⟩, rfl, by simp [tabO, Ob.live], ?_⟩
  rintro v H' ⟨rfl, rfl⟩
  refine ⟨fun j o hj h => (by rw [List.getElem?_eq_none (by simpa using hj)] at h; cases h), ?_⟩
  rw [show merge (rho [l] H.length) [l] [tabO] H = H.set l tabO ++ [] from rfl, List.append_nil, set_same h1]; exact hk
end Go.Proofs.YtonohiifmepjfaaDoor
