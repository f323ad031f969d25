/-
  The statement's own functions: the example holds; a new node.
-/
import Derived.Test.YtlejlgadonogeaaEl1
namespace Go.Proofs.Ytlejlgadonogeaa
open Go Go.RowKit Ev
set_option maxHeartbeats 4000000
set_option maxRecDepth 100000
def newB (me to ig : Int) : Bool := !(decide (me < 0) || decide (me ≥ 64)) && goodB to ig
def newS (me to ig : Int) : St := { me := me, to := to, ig := ig, boot := 0, seq := 0, root := -1, beats := 0, quiet := 0, f := fun _ => none }

theorem alive_ev : evF Try.prog 60 4 [] [] (gcS 0 fun v H => v = .bool true ∧ H = []) := by
  ((with_reducible refine evF_go (by with_unfolding_all exact rfl) (by with_unfolding_all exact rfl) ?_); repeat' (first
      | with_reducible refine c_seq ?_
      | with_reducible refine p_then_n ?_
      | with_reducible refine p_nrm ?_
      | with_reducible refine c_region (by with_unfolding_all exact rfl) ?_
      | with_reducible refine ops_run (by with_unfolding_all exact rfl) (by with_unfolding_all exact rfl) (by with_unfolding_all first | exact trivial | (repeat' (first | exact rfl | refine And.intro ?_ ?_ | omega | (simp only [decide_eq_true_eq, decide_eq_false_iff_not] at *; omega) | (simp; done)))) ?_
      | with_reducible refine ops_nil ?_
      | with_reducible refine ops_step (by with_unfolding_all exact rfl) (call_text (by with_unfolding_all exact rfl) (by with_unfolding_all exact rfl) (by with_unfolding_all exact rfl) ?_)
      | with_reducible refine one_step (by with_unfolding_all exact rfl) (call_text (by with_unfolding_all exact rfl) (by with_unfolding_all exact rfl) (by with_unfolding_all exact rfl) ?_)
      | with_reducible refine aft_go (by with_unfolding_all exact rfl) ?_
      | (with_reducible refine ops_step (by with_unfolding_all exact rfl) (look_go (by with_unfolding_all exact rfl) (fun g h => ?_) (fun h => ?_)) <;> (try (exfalso; simp at h; done)))
      | (with_reducible refine one_step (by with_unfolding_all exact rfl) (look_go (by with_unfolding_all exact rfl) (fun g h => ?_) (fun h => ?_)) <;> (try (exfalso; simp at h; done)))
      | with_reducible refine c_draw (by with_unfolding_all exact rfl) (by with_unfolding_all exact rfl) (by with_unfolding_all exact rfl) ?_
      | with_reducible refine draw_run (by with_unfolding_all exact rfl) (by with_unfolding_all exact rfl) (by with_unfolding_all first | exact trivial | (repeat' (first | exact rfl | refine And.intro ?_ ?_ | omega | (simp only [decide_eq_true_eq, decide_eq_false_iff_not] at *; omega) | (simp; done)))) ?_
      | with_reducible refine draw_done (by with_unfolding_all exact rfl) ?_
      | with_reducible refine draw_many (by with_unfolding_all exact rfl) (by with_unfolding_all exact rfl) ?_
      | with_reducible refine allD_one ?_
      | with_reducible refine one_step (by with_unfolding_all exact rfl) (stp_eff (by with_unfolding_all exact rfl) (by with_unfolding_all exact rfl) (by with_unfolding_all first | exact trivial | (repeat' (first | exact rfl | refine And.intro ?_ ?_ | omega | (simp only [decide_eq_true_eq, decide_eq_false_iff_not] at *; omega) | (simp; done)))) ?_)
      | with_reducible refine aftD_go (by with_unfolding_all exact rfl) (by with_unfolding_all exact rfl) (by with_unfolding_all first | exact trivial | (repeat' (first | exact rfl | refine And.intro ?_ ?_ | omega | (simp only [decide_eq_true_eq, decide_eq_false_iff_not] at *; omega) | (simp; done)))) ?_
      | with_reducible refine allD_more ?_ ?_
      | with_reducible refine c_t (by with_unfolding_all exact rfl) ?_
      | with_reducible refine c_f (by with_unfolding_all exact rfl) ?_
      | with_reducible refine c_ret ?_
      | with_reducible refine c_exit ?_
      | with_reducible refine c_skip ?_
      | with_reducible refine c_block ?_
      | with_reducible refine p_then_r ?_
      | with_reducible refine p_then_e ?_
      | with_reducible refine p_blk_n ?_
      | with_reducible refine p_blk_r ?_
      | with_reducible refine p_blk_hit (by with_unfolding_all exact rfl) ?_
      | with_reducible refine p_blk_miss (by with_unfolding_all exact rfl) ?_
      | with_reducible refine p_ret (by with_unfolding_all exact rfl) (by with_unfolding_all first | exact trivial | (repeat' (first | exact rfl | refine And.intro ?_ ?_ | omega | (simp only [decide_eq_true_eq, decide_eq_false_iff_not] at *; omega) | (simp; done)))) ?_
      | with_reducible refine p_ret_n (by with_unfolding_all exact rfl) (by with_unfolding_all first | exact trivial | (repeat' (first | exact rfl | refine And.intro ?_ ?_ | omega | (simp only [decide_eq_true_eq, decide_eq_false_iff_not] at *; omega) | (simp; done)))) ?_
      | with_reducible refine ops_lit (by with_unfolding_all exact rfl) (by with_unfolding_all exact rfl) (by with_unfolding_all exact rfl) (by with_unfolding_all exact rfl) (by with_unfolding_all first | exact trivial | (repeat' (first | exact rfl | refine And.intro ?_ ?_ | omega | (simp only [decide_eq_true_eq, decide_eq_false_iff_not] at *; omega) | (simp; done)))) ?_
      | with_reducible refine c_byt (by with_unfolding_all exact rfl) (by assumption) ?_
      | with_reducible refine c_byf (by with_unfolding_all exact rfl) (by assumption) ?_
      | with_reducible refine draw_lit (by with_unfolding_all exact rfl) (by with_unfolding_all exact rfl) (by with_unfolding_all exact rfl) (by with_unfolding_all exact rfl) (by with_unfolding_all exact rfl) (by with_unfolding_all first | exact trivial | (repeat' (first | exact rfl | refine And.intro ?_ ?_ | omega | (simp only [decide_eq_true_eq, decide_eq_false_iff_not] at *; omega) | (simp; done)))) ?_
      | with_reducible refine draw_by (r := true) (by with_unfolding_all exact rfl) (by with_unfolding_all exact rfl) (by assumption) (by with_unfolding_all exact rfl) ?_
      | with_reducible refine draw_by (r := false) (by with_unfolding_all exact rfl) (by with_unfolding_all exact rfl) (by assumption) (by with_unfolding_all exact rfl) ?_
      | with_reducible refine ops_by (r := true) (by with_unfolding_all exact rfl) (by assumption) (by with_unfolding_all exact rfl) ?_
      | with_reducible refine ops_by (r := false) (by with_unfolding_all exact rfl) (by assumption) (by with_unfolding_all exact rfl) ?_))
  all_goals (with_reducible refine gcS_go [] (by with_unfolding_all exact rfl) (by with_unfolding_all exact trivial) ?_)
  all_goals exact ⟨rfl, rfl⟩
theorem alive_sound : Sound Try.prog 4 fun args H k => args = [] ∧ k (.bool true) H := by
  refine sound_plain hNG hmix ?_
  rintro args H k ⟨rfl, hk⟩
  exact ⟨60, _, alive_ev, fun r => rfl, fun r => rfl, rfl, hk⟩
theorem new_t (me to ig : Int) (hn : newB me to ig = true) : evF Try.prog 60 5 [.int .i64 me, .agg [.int .i64 to, .int .i64 ig]] [] (gcS 0 fun v H => v = .tup [.ptr 0 0 0, .int .i64 0] ∧ H = [elO (newS me to ig) 1, mpO (newS me to ig)]) := by
  simp only [newB, Bool.and_eq_true, Bool.not_eq_true', Bool.or_eq_false_iff] at hn
  obtain ⟨⟨h1, h2⟩, h3⟩ := hn
  ((with_reducible refine evF_go (by with_unfolding_all exact rfl) (by with_unfolding_all exact rfl) ?_); repeat' (first
      | with_reducible refine c_seq ?_
      | with_reducible refine p_then_n ?_
      | with_reducible refine p_nrm ?_
      | with_reducible refine c_region (by with_unfolding_all exact rfl) ?_
      | with_reducible refine ops_run (by with_unfolding_all exact rfl) (by with_unfolding_all exact rfl) (by with_unfolding_all first | exact trivial | (repeat' (first | exact rfl | refine And.intro ?_ ?_ | omega | (simp only [decide_eq_true_eq, decide_eq_false_iff_not] at *; omega) | (simp; done)))) ?_
      | with_reducible refine ops_nil ?_
      | (with_reducible refine ops_step (by with_unfolding_all exact rfl) (call_law good_sound (by with_unfolding_all exact rfl) (by with_unfolding_all exact rfl) ?_); refine ⟨_, _, rfl, ?_⟩)
      | (with_reducible refine one_step (by with_unfolding_all exact rfl) (call_law good_sound (by with_unfolding_all exact rfl) (by with_unfolding_all exact rfl) ?_); refine ⟨_, _, rfl, ?_⟩)
      | with_reducible refine ops_step (by with_unfolding_all exact rfl) (call_text (by with_unfolding_all exact rfl) (by with_unfolding_all exact rfl) (by with_unfolding_all exact rfl) ?_)
      | with_reducible refine one_step (by with_unfolding_all exact rfl) (call_text (by with_unfolding_all exact rfl) (by with_unfolding_all exact rfl) (by with_unfolding_all exact rfl) ?_)
      | with_reducible refine aft_go (by with_unfolding_all exact rfl) ?_
      | (with_reducible refine ops_step (by with_unfolding_all exact rfl) (look_go (by with_unfolding_all exact rfl) (fun g h => ?_) (fun h => ?_)) <;> (try (exfalso; simp at h; done)))
      | (with_reducible refine one_step (by with_unfolding_all exact rfl) (look_go (by with_unfolding_all exact rfl) (fun g h => ?_) (fun h => ?_)) <;> (try (exfalso; simp at h; done)))
      | with_reducible refine c_draw (by with_unfolding_all exact rfl) (by with_unfolding_all exact rfl) (by with_unfolding_all exact rfl) ?_
      | with_reducible refine draw_run (by with_unfolding_all exact rfl) (by with_unfolding_all exact rfl) (by with_unfolding_all first | exact trivial | (repeat' (first | exact rfl | refine And.intro ?_ ?_ | omega | (simp only [decide_eq_true_eq, decide_eq_false_iff_not] at *; omega) | (simp; done)))) ?_
      | with_reducible refine draw_done (by with_unfolding_all exact rfl) ?_
      | with_reducible refine draw_many (by with_unfolding_all exact rfl) (by with_unfolding_all exact rfl) ?_
      | with_reducible refine allD_one ?_
      | with_reducible refine one_step (by with_unfolding_all exact rfl) (stp_eff (by with_unfolding_all exact rfl) (by with_unfolding_all exact rfl) (by with_unfolding_all first | exact trivial | (repeat' (first | exact rfl | refine And.intro ?_ ?_ | omega | (simp only [decide_eq_true_eq, decide_eq_false_iff_not] at *; omega) | (simp; done)))) ?_)
      | with_reducible refine aftD_go (by with_unfolding_all exact rfl) (by with_unfolding_all exact rfl) (by with_unfolding_all first | exact trivial | (repeat' (first | exact rfl | refine And.intro ?_ ?_ | omega | (simp only [decide_eq_true_eq, decide_eq_false_iff_not] at *; omega) | (simp; done)))) ?_
      | with_reducible refine allD_more ?_ ?_
      | with_reducible refine c_t (by with_unfolding_all exact rfl) ?_
      | with_reducible refine c_f (by with_unfolding_all exact rfl) ?_
      | with_reducible refine c_ret ?_
      | with_reducible refine c_exit ?_
      | with_reducible refine c_skip ?_
      | with_reducible refine c_block ?_
      | with_reducible refine p_then_r ?_
      | with_reducible refine p_then_e ?_
      | with_reducible refine p_blk_n ?_
      | with_reducible refine p_blk_r ?_
      | with_reducible refine p_blk_hit (by with_unfolding_all exact rfl) ?_
      | with_reducible refine p_blk_miss (by with_unfolding_all exact rfl) ?_
      | with_reducible refine p_ret (by with_unfolding_all exact rfl) (by with_unfolding_all first | exact trivial | (repeat' (first | exact rfl | refine And.intro ?_ ?_ | omega | (simp only [decide_eq_true_eq, decide_eq_false_iff_not] at *; omega) | (simp; done)))) ?_
      | with_reducible refine p_ret_n (by with_unfolding_all exact rfl) (by with_unfolding_all first | exact trivial | (repeat' (first | exact rfl | refine And.intro ?_ ?_ | omega | (simp only [decide_eq_true_eq, decide_eq_false_iff_not] at *; omega) | (simp; done)))) ?_
      | with_reducible refine ops_lit (by with_unfolding_all exact rfl) (by with_unfolding_all exact rfl) (by with_unfolding_all exact rfl) (by with_unfolding_all exact rfl) (by with_unfolding_all first | exact trivial | (repeat' (first | exact rfl | refine And.intro ?_ ?_ | omega | (simp only [decide_eq_true_eq, decide_eq_false_iff_not] at *; omega) | (simp; done)))) ?_
      | with_reducible refine c_byt (by with_unfolding_all exact rfl) (by assumption) ?_
      | with_reducible refine c_byf (by with_unfolding_all exact rfl) (by assumption) ?_
      | with_reducible refine draw_lit (by with_unfolding_all exact rfl) (by with_unfolding_all exact rfl) (by with_unfolding_all exact rfl) (by with_unfolding_all exact rfl) (by with_unfolding_all exact rfl) (by with_unfolding_all first | exact trivial | (repeat' (first | exact rfl | refine And.intro ?_ ?_ | omega | (simp only [decide_eq_true_eq, decide_eq_false_iff_not] at *; omega) | (simp; done)))) ?_
      | with_reducible refine draw_by (r := true) (by with_unfolding_all exact rfl) (by with_unfolding_all exact rfl) (by assumption) (by with_unfolding_all exact rfl) ?_
      | with_reducible refine draw_by (r := false) (by with_unfolding_all exact rfl) (by with_unfolding_all exact rfl) (by assumption) (by with_unfolding_all exact rfl) ?_
      | with_reducible refine ops_by (r := true) (by with_unfolding_all exact rfl) (by assumption) (by with_unfolding_all exact rfl) ?_
      | with_reducible refine ops_by (r := false) (by with_unfolding_all exact rfl) (by assumption) (by with_unfolding_all exact rfl) ?_
      | (with_reducible refine c_split (by with_unfolding_all exact rfl) ?_ ?_ <;> (intro h; try (exfalso; first | (simp at h; done) | (simp_all; done) | (simp_all; omega); done)))
      | (with_reducible refine draw_split (by with_unfolding_all exact rfl) (by with_unfolding_all exact rfl) (by with_unfolding_all exact rfl) (by with_unfolding_all exact rfl) ?_ ?_ <;> (intro h; try (exfalso; first | (simp at h; done) | (simp_all; done) | (simp_all; omega); done)))
      | (with_reducible refine ops_split (by with_unfolding_all exact rfl) (by with_unfolding_all exact rfl) (by with_unfolding_all exact rfl) ?_ ?_ <;> (intro h; try (exfalso; first | (simp at h; done) | (simp_all; done) | (simp_all; omega); done)))))
  all_goals (with_reducible refine gcS_go [some 1, some 2] (by with_unfolding_all exact rfl) (by with_unfolding_all exact trivial) ?_)
  all_goals exact ⟨rfl, rfl⟩
theorem new_f (me to ig : Int) (hn : newB me to ig = false) : evF Try.prog 60 5 [.int .i64 me, .agg [.int .i64 to, .int .i64 ig]] [] (gcS 0 fun v H => v = .tup [.nilp, .int .i64 1] ∧ H = []) := by
  simp only [newB] at hn
  ((with_reducible refine evF_go (by with_unfolding_all exact rfl) (by with_unfolding_all exact rfl) ?_); repeat' (first
      | with_reducible refine c_seq ?_
      | with_reducible refine p_then_n ?_
      | with_reducible refine p_nrm ?_
      | with_reducible refine c_region (by with_unfolding_all exact rfl) ?_
      | with_reducible refine ops_run (by with_unfolding_all exact rfl) (by with_unfolding_all exact rfl) (by with_unfolding_all first | exact trivial | (repeat' (first | exact rfl | refine And.intro ?_ ?_ | omega | (simp only [decide_eq_true_eq, decide_eq_false_iff_not] at *; omega) | (simp; done)))) ?_
      | with_reducible refine ops_nil ?_
      | (with_reducible refine ops_step (by with_unfolding_all exact rfl) (call_law good_sound (by with_unfolding_all exact rfl) (by with_unfolding_all exact rfl) ?_); refine ⟨_, _, rfl, ?_⟩)
      | (with_reducible refine one_step (by with_unfolding_all exact rfl) (call_law good_sound (by with_unfolding_all exact rfl) (by with_unfolding_all exact rfl) ?_); refine ⟨_, _, rfl, ?_⟩)
      | with_reducible refine ops_step (by with_unfolding_all exact rfl) (call_text (by with_unfolding_all exact rfl) (by with_unfolding_all exact rfl) (by with_unfolding_all exact rfl) ?_)
      | with_reducible refine one_step (by with_unfolding_all exact rfl) (call_text (by with_unfolding_all exact rfl) (by with_unfolding_all exact rfl) (by with_unfolding_all exact rfl) ?_)
      | with_reducible refine aft_go (by with_unfolding_all exact rfl) ?_
      | (with_reducible refine ops_step (by with_unfolding_all exact rfl) (look_go (by with_unfolding_all exact rfl) (fun g h => ?_) (fun h => ?_)) <;> (try (exfalso; simp at h; done)))
      | (with_reducible refine one_step (by with_unfolding_all exact rfl) (look_go (by with_unfolding_all exact rfl) (fun g h => ?_) (fun h => ?_)) <;> (try (exfalso; simp at h; done)))
      | with_reducible refine c_draw (by with_unfolding_all exact rfl) (by with_unfolding_all exact rfl) (by with_unfolding_all exact rfl) ?_
      | with_reducible refine draw_run (by with_unfolding_all exact rfl) (by with_unfolding_all exact rfl) (by with_unfolding_all first | exact trivial | (repeat' (first | exact rfl | refine And.intro ?_ ?_ | omega | (simp only [decide_eq_true_eq, decide_eq_false_iff_not] at *; omega) | (simp; done)))) ?_
      | with_reducible refine draw_done (by with_unfolding_all exact rfl) ?_
      | with_reducible refine draw_many (by with_unfolding_all exact rfl) (by with_unfolding_all exact rfl) ?_
      | with_reducible refine allD_one ?_
      | with_reducible refine one_step (by with_unfolding_all exact rfl) (stp_eff (by with_unfolding_all exact rfl) (by with_unfolding_all exact rfl) (by with_unfolding_all first | exact trivial | (repeat' (first | exact rfl | refine And.intro ?_ ?_ | omega | (simp only [decide_eq_true_eq, decide_eq_false_iff_not] at *; omega) | (simp; done)))) ?_)
      | with_reducible refine aftD_go (by with_unfolding_all exact rfl) (by with_unfolding_all exact rfl) (by with_unfolding_all first | exact trivial | (repeat' (first | exact rfl | refine And.intro ?_ ?_ | omega | (simp only [decide_eq_true_eq, decide_eq_false_iff_not] at *; omega) | (simp; done)))) ?_
      | with_reducible refine allD_more ?_ ?_
      | with_reducible refine c_t (by with_unfolding_all exact rfl) ?_
      | with_reducible refine c_f (by with_unfolding_all exact rfl) ?_
      | with_reducible refine c_ret ?_
      | with_reducible refine c_exit ?_
      | with_reducible refine c_skip ?_
      | with_reducible refine c_block ?_
      | with_reducible refine p_then_r ?_
      | with_reducible refine p_then_e ?_
      | with_reducible refine p_blk_n ?_
      | with_reducible refine p_blk_r ?_
      | with_reducible refine p_blk_hit (by with_unfolding_all exact rfl) ?_
      | with_reducible refine p_blk_miss (by with_unfolding_all exact rfl) ?_
      | with_reducible refine p_ret (by with_unfolding_all exact rfl) (by with_unfolding_all first | exact trivial | (repeat' (first | exact rfl | refine And.intro ?_ ?_ | omega | (simp only [decide_eq_true_eq, decide_eq_false_iff_not] at *; omega) | (simp; done)))) ?_
      | with_reducible refine p_ret_n (by with_unfolding_all exact rfl) (by with_unfolding_all first | exact trivial | (repeat' (first | exact rfl | refine And.intro ?_ ?_ | omega | (simp only [decide_eq_true_eq, decide_eq_false_iff_not] at *; omega) | (simp; done)))) ?_
      | with_reducible refine ops_lit (by with_unfolding_all exact rfl) (by with_unfolding_all exact rfl) (by with_unfolding_all exact rfl) (by with_unfolding_all exact rfl) (by with_unfolding_all first | exact trivial | (repeat' (first | exact rfl | refine And.intro ?_ ?_ | omega | (simp only [decide_eq_true_eq, decide_eq_false_iff_not] at *; omega) | (simp; done)))) ?_
      | with_reducible refine c_byt (by with_unfolding_all exact rfl) (by assumption) ?_
      | with_reducible refine c_byf (by with_unfolding_all exact rfl) (by assumption) ?_
      | with_reducible refine draw_lit (by with_unfolding_all exact rfl) (by with_unfolding_all exact rfl) (by with_unfolding_all exact rfl) (by with_unfolding_all exact rfl) (by with_unfolding_all exact rfl) (by with_unfolding_all first | exact trivial | (repeat' (first | exact rfl | refine And.intro ?_ ?_ | omega | (simp only [decide_eq_true_eq, decide_eq_false_iff_not] at *; omega) | (simp; done)))) ?_
      | with_reducible refine draw_by (r := true) (by with_unfolding_all exact rfl) (by with_unfolding_all exact rfl) (by assumption) (by with_unfolding_all exact rfl) ?_
      | with_reducible refine draw_by (r := false) (by with_unfolding_all exact rfl) (by with_unfolding_all exact rfl) (by assumption) (by with_unfolding_all exact rfl) ?_
      | with_reducible refine ops_by (r := true) (by with_unfolding_all exact rfl) (by assumption) (by with_unfolding_all exact rfl) ?_
      | with_reducible refine ops_by (r := false) (by with_unfolding_all exact rfl) (by assumption) (by with_unfolding_all exact rfl) ?_
      | (with_reducible refine c_split (by with_unfolding_all exact rfl) ?_ ?_ <;> (intro h; try (exfalso; first | (simp at h; done) | (simp_all; done) | (simp_all; omega); done)))
      | (with_reducible refine draw_split (by with_unfolding_all exact rfl) (by with_unfolding_all exact rfl) (by with_unfolding_all exact rfl) (by with_unfolding_all exact rfl) ?_ ?_ <;> (intro h; try (exfalso; first | (simp at h; done) | (simp_all; done) | (simp_all; omega); done)))
      | (with_reducible refine ops_split (by with_unfolding_all exact rfl) (by with_unfolding_all exact rfl) (by with_unfolding_all exact rfl) ?_ ?_ <;> (intro h; try (exfalso; first | (simp at h; done) | (simp_all; done) | (simp_all; omega); done)))))
  all_goals (with_reducible refine gcS_go [] (by with_unfolding_all exact rfl) (by with_unfolding_all exact trivial) ?_)
  all_goals exact ⟨rfl, rfl⟩

theorem new_sound : Sound Try.prog 5 fun args H k => ∃ me to ig, args = [.int .i64 me, .agg [.int .i64 to, .int .i64 ig]] ∧
    (newB me to ig = true → k (.tup [.ptr H.length 0 0, .int .i64 0]) (H ++ [elO (newS me to ig) (H.length + 1), mpO (newS me to ig)])) ∧ (newB me to ig = false → k (.tup [.nilp, .int .i64 1]) H) := by
  refine sound_small hNG hmix ?_
  rintro args H k ⟨me, to, ig, rfl, h1, h2⟩
  cases hn : newB me to ig with
  | true =>
    refine ⟨60, _, _, [], _, new_t me to ig hn, rfl, ⟨rfl, by simp, fun j l o h => by simp at h⟩, trivial, rfl, by simp, ?_⟩
    rintro v H' ⟨rfl, rfl⟩
    refine ⟨fun j o hj h hl => ?_, h1 hn⟩
    match j, h with
    | 0, h => simp at h; subst h; rfl
    | 1, h => simp at h; subst h; rfl
    | j + 2, h => simp at h
  | false =>
    refine ⟨60, _, _, [], _, new_f me to ig hn, rfl, ⟨rfl, by simp, fun j l o h => by simp at h⟩, trivial, rfl, by simp, ?_⟩
    rintro v H' ⟨rfl, rfl⟩
    exact ⟨fun j o _ h => by simp at h, by simpa [merge, ren, rens] using h2 hn⟩
theorem hearS_of {s : St} {r b q : Int} (h : (hearV s r b q != 0) = false) : hearS s r b q = s := by
  simp only [hearV, hearS] at *
  cases hd : deafB s r b q
  · rw [hd] at h
    cases hm : movedB s r b <;> rw [hm] at h <;> simp at h
  · rfl
end Go.Proofs.Ytlejlgadonogeaa
