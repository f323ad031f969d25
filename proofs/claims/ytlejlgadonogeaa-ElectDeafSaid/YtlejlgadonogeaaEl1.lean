/-
  The node of layer 15 as numbers, and the contracts of its functions: each, called at a node, answers and changes it as the Lean function beside it says.
-/
import Derived.Test.YtlejlgadonogeaaEv21
import Derived.Test.YtlejlgadonogeaaChecked
namespace Go.Proofs.Ytlejlgadonogeaa
open Go Go.RowKit Ev
set_option maxHeartbeats 4000000
set_option maxRecDepth 100000

theorem hNG : ∀ (f : Nat) (fn : Func), Try.prog.funcs[f]? = some fn → (fn.name == "runtime.NumGoroutine") = false := by
  have h : Try.prog.funcs.toList.all (fun fn => !(fn.name == "runtime.NumGoroutine")) = true := by kernel_rfl
  intro f fn hf
  have := List.all_eq_true.1 h fn (by
    have := Array.mem_of_getElem? hf
    simpa using this)
  simpa using this
theorem hmix : Try.prog.follows .mixedOrders = true := by kernel_rfl

structure St where
  me : Int
  to : Int
  ig : Int
  boot : Int
  seq : Int
  root : Int
  beats : Int
  quiet : Int
  f : Int → Option (Nat → Int)
def elO (s : St) (lm : Nat) : Ob := .mem true 44 [.int .i64 s.me, .int .i64 s.to, .int .i64 s.ig, .int .u16 s.boot, .int .u16 s.seq, .int .i64 s.root, .int .i64 s.beats, .int .i64 s.quiet, .map lm] 0 []
def mpO (s : St) : Ob := .mp [.u16, .u16] s.f

def newerI (a b : Int) : Bool := decide (IntKind.i16.wrap (IntKind.u16.wrap (a - b)) > 0)
def newerB (b q b' q' : Int) : Bool := newerI b b' || (b == b' && newerI q q')
def mineB (s : St) : Bool := s.root == s.me
def mayB (s : St) (root : Int) : Bool := !(decide (root < 0) || decide (root ≥ s.me)) && ((mineB s && s.quiet == 0) || (!mineB s && (decide (s.root < 0) || decide (root ≤ s.root))))
def goodB (to ig : Int) : Bool := decide (to ≥ 1) && decide (to ≤ 1000) && decide (ig ≥ 0) && decide (ig ≤ 1000)

theorem newerI_ev (a b : Int) : evF Try.prog 30 17 [.int .u16 a, .int .u16 b] [] (gcS 0 fun v H => v = .bool (newerI a b) ∧ H = []) := by
  ((with_reducible refine evF_go (by with_unfolding_all exact rfl) (by with_unfolding_all exact rfl) ?_); repeat' (first
      | with_reducible refine c_seq ?_
      | with_reducible refine p_then_n ?_
      | with_reducible refine p_nrm ?_
      | with_reducible refine c_region (by with_unfolding_all exact rfl) ?_
      | with_reducible refine ops_run (by with_unfolding_all exact rfl) (by with_unfolding_all exact rfl) (by with_unfolding_all first | exact trivial | (repeat' (first | exact rfl | refine And.intro ?_ ?_ | omega | (simp only [decide_eq_true_eq, decide_eq_false_iff_not] at *; omega) | (simp; done)))) ?_
      | with_reducible refine ops_nil ?_
      | with_reducible refine ops_step (by with_unfolding_all exact rfl) (call_text (by with_unfolding_all exact rfl) (by with_unfolding_all exact rfl) (by with_unfolding_all exact rfl) ?_)
      | with_reducible refine one_step (by with_unfolding_all exact rfl) (call_text (by with_unfolding_all exact rfl) (by with_unfolding_all exact rfl) (by with_unfolding_all exact rfl) ?_)
      | with_reducible refine aft_go (by with_unfolding_all exact rfl) ?_
      | (with_reducible refine ops_step (by with_unfolding_all exact rfl) (look_go (by with_unfolding_all exact rfl) (fun g h => ?_) (fun h => ?_)) <;> (try (exfalso; simp at h; done)))
      | (with_reducible refine one_step (by with_unfolding_all exact rfl) (look_go (by with_unfolding_all exact rfl) (fun g h => ?_) (fun h => ?_)) <;> (try (exfalso; simp at h; done)))
      | with_reducible refine c_draw (by with_unfolding_all exact rfl) (by with_unfolding_all exact rfl) (by with_unfolding_all exact rfl) ?_
      | with_reducible refine draw_run (by with_unfolding_all exact rfl) (by with_unfolding_all exact rfl) (by with_unfolding_all first | exact trivial | (repeat' (first | exact rfl | refine And.intro ?_ ?_ | omega | (simp only [decide_eq_true_eq, decide_eq_false_iff_not] at *; omega) | (simp; done)))) ?_
      | with_reducible refine draw_done (by with_unfolding_all exact rfl) ?_
      | with_reducible refine draw_many (by with_unfolding_all exact rfl) (by with_unfolding_all exact rfl) ?_
      | with_reducible refine allD_one ?_
      | with_reducible refine one_step (by with_unfolding_all exact rfl) (stp_eff (by with_unfolding_all exact rfl) (by with_unfolding_all exact rfl) (by with_unfolding_all first | exact trivial | (repeat' (first | exact rfl | refine And.intro ?_ ?_ | omega | (simp only [decide_eq_true_eq, decide_eq_false_iff_not] at *; omega) | (simp; done)))) ?_)
      | with_reducible refine aftD_go (by with_unfolding_all exact rfl) (by with_unfolding_all exact rfl) (by with_unfolding_all first | exact trivial | (repeat' (first | exact rfl | refine And.intro ?_ ?_ | omega | (simp only [decide_eq_true_eq, decide_eq_false_iff_not] at *; omega) | (simp; done)))) ?_
      | with_reducible refine allD_more ?_ ?_
      | with_reducible refine c_t (by with_unfolding_all exact rfl) ?_
      | with_reducible refine c_f (by with_unfolding_all exact rfl) ?_
      | with_reducible refine c_ret ?_
      | with_reducible refine c_exit ?_
      | with_reducible refine c_skip ?_
      | with_reducible refine c_block ?_
      | with_reducible refine p_then_r ?_
      | with_reducible refine p_then_e ?_
      | with_reducible refine p_blk_n ?_
      | with_reducible refine p_blk_r ?_
      | with_reducible refine p_blk_hit (by with_unfolding_all exact rfl) ?_
      | with_reducible refine p_blk_miss (by with_unfolding_all exact rfl) ?_
      | with_reducible refine p_ret (by with_unfolding_all exact rfl) (by with_unfolding_all first | exact trivial | (repeat' (first | exact rfl | refine And.intro ?_ ?_ | omega | (simp only [decide_eq_true_eq, decide_eq_false_iff_not] at *; omega) | (simp; done)))) ?_
      | with_reducible refine p_ret_n (by with_unfolding_all exact rfl) (by with_unfolding_all first | exact trivial | (repeat' (first | exact rfl | refine And.intro ?_ ?_ | omega | (simp only [decide_eq_true_eq, decide_eq_false_iff_not] at *; omega) | (simp; done)))) ?_
      | with_reducible refine ops_lit (by with_unfolding_all exact rfl) (by with_unfolding_all exact rfl) (by with_unfolding_all exact rfl) (by with_unfolding_all exact rfl) (by with_unfolding_all first | exact trivial | (repeat' (first | exact rfl | refine And.intro ?_ ?_ | omega | (simp only [decide_eq_true_eq, decide_eq_false_iff_not] at *; omega) | (simp; done)))) ?_
      | with_reducible refine c_byt (by with_unfolding_all exact rfl) (by assumption) ?_
      | with_reducible refine c_byf (by with_unfolding_all exact rfl) (by assumption) ?_
      | with_reducible refine draw_lit (by with_unfolding_all exact rfl) (by with_unfolding_all exact rfl) (by with_unfolding_all exact rfl) (by with_unfolding_all exact rfl) (by with_unfolding_all exact rfl) (by with_unfolding_all first | exact trivial | (repeat' (first | exact rfl | refine And.intro ?_ ?_ | omega | (simp only [decide_eq_true_eq, decide_eq_false_iff_not] at *; omega) | (simp; done)))) ?_
      | with_reducible refine draw_by (r := true) (by with_unfolding_all exact rfl) (by with_unfolding_all exact rfl) (by assumption) (by with_unfolding_all exact rfl) ?_
      | with_reducible refine draw_by (r := false) (by with_unfolding_all exact rfl) (by with_unfolding_all exact rfl) (by assumption) (by with_unfolding_all exact rfl) ?_
      | with_reducible refine ops_by (r := true) (by with_unfolding_all exact rfl) (by assumption) (by with_unfolding_all exact rfl) ?_
      | with_reducible refine ops_by (r := false) (by with_unfolding_all exact rfl) (by assumption) (by with_unfolding_all exact rfl) ?_
      | (with_reducible refine c_split (by with_unfolding_all exact rfl) ?_ ?_ <;> (intro h; try (exfalso; simp at h; done)))
      | (with_reducible refine draw_split (by with_unfolding_all exact rfl) (by with_unfolding_all exact rfl) (by with_unfolding_all exact rfl) (by with_unfolding_all exact rfl) ?_ ?_ <;> (intro h; try (exfalso; simp at h; done)))
      | (with_reducible refine ops_split (by with_unfolding_all exact rfl) (by with_unfolding_all exact rfl) (by with_unfolding_all exact rfl) ?_ ?_ <;> (intro h; try (exfalso; simp at h; done)))))
  all_goals (with_reducible refine gcS_go [] (by with_unfolding_all exact rfl) (by with_unfolding_all exact trivial) ?_)
  all_goals exact ⟨rfl, rfl⟩
theorem newerI_sound : Sound Try.prog 17 fun args H k => ∃ a b, args = [.int .u16 a, .int .u16 b] ∧ k (.bool (newerI a b)) H := by
  refine sound_plain hNG hmix ?_
  rintro args H k ⟨a, b, rfl, hk⟩
  exact ⟨30, _, newerI_ev a b, fun r => rfl, fun r => rfl, rfl, hk⟩

theorem next_ev (a : Int) : evF Try.prog 30 16 [.int .u16 a] [] (gcS 0 fun v H => v = .int .u16 (IntKind.u16.wrap (a + 1)) ∧ H = []) := by
  ((with_reducible refine evF_go (by with_unfolding_all exact rfl) (by with_unfolding_all exact rfl) ?_); repeat' (first
      | with_reducible refine c_seq ?_
      | with_reducible refine p_then_n ?_
      | with_reducible refine p_nrm ?_
      | with_reducible refine c_region (by with_unfolding_all exact rfl) ?_
      | with_reducible refine ops_run (by with_unfolding_all exact rfl) (by with_unfolding_all exact rfl) (by with_unfolding_all first | exact trivial | (repeat' (first | exact rfl | refine And.intro ?_ ?_ | omega | (simp only [decide_eq_true_eq, decide_eq_false_iff_not] at *; omega) | (simp; done)))) ?_
      | with_reducible refine ops_nil ?_
      | with_reducible refine ops_step (by with_unfolding_all exact rfl) (call_text (by with_unfolding_all exact rfl) (by with_unfolding_all exact rfl) (by with_unfolding_all exact rfl) ?_)
      | with_reducible refine one_step (by with_unfolding_all exact rfl) (call_text (by with_unfolding_all exact rfl) (by with_unfolding_all exact rfl) (by with_unfolding_all exact rfl) ?_)
      | with_reducible refine aft_go (by with_unfolding_all exact rfl) ?_
      | (with_reducible refine ops_step (by with_unfolding_all exact rfl) (look_go (by with_unfolding_all exact rfl) (fun g h => ?_) (fun h => ?_)) <;> (try (exfalso; simp at h; done)))
      | (with_reducible refine one_step (by with_unfolding_all exact rfl) (look_go (by with_unfolding_all exact rfl) (fun g h => ?_) (fun h => ?_)) <;> (try (exfalso; simp at h; done)))
      | with_reducible refine c_draw (by with_unfolding_all exact rfl) (by with_unfolding_all exact rfl) (by with_unfolding_all exact rfl) ?_
      | with_reducible refine draw_run (by with_unfolding_all exact rfl) (by with_unfolding_all exact rfl) (by with_unfolding_all first | exact trivial | (repeat' (first | exact rfl | refine And.intro ?_ ?_ | omega | (simp only [decide_eq_true_eq, decide_eq_false_iff_not] at *; omega) | (simp; done)))) ?_
      | with_reducible refine draw_done (by with_unfolding_all exact rfl) ?_
      | with_reducible refine draw_many (by with_unfolding_all exact rfl) (by with_unfolding_all exact rfl) ?_
      | with_reducible refine allD_one ?_
      | with_reducible refine one_step (by with_unfolding_all exact rfl) (stp_eff (by with_unfolding_all exact rfl) (by with_unfolding_all exact rfl) (by with_unfolding_all first | exact trivial | (repeat' (first | exact rfl | refine And.intro ?_ ?_ | omega | (simp only [decide_eq_true_eq, decide_eq_false_iff_not] at *; omega) | (simp; done)))) ?_)
      | with_reducible refine aftD_go (by with_unfolding_all exact rfl) (by with_unfolding_all exact rfl) (by with_unfolding_all first | exact trivial | (repeat' (first | exact rfl | refine And.intro ?_ ?_ | omega | (simp only [decide_eq_true_eq, decide_eq_false_iff_not] at *; omega) | (simp; done)))) ?_
      | with_reducible refine allD_more ?_ ?_
      | with_reducible refine c_t (by with_unfolding_all exact rfl) ?_
      | with_reducible refine c_f (by with_unfolding_all exact rfl) ?_
      | with_reducible refine c_ret ?_
      | with_reducible refine c_exit ?_
      | with_reducible refine c_skip ?_
      | with_reducible refine c_block ?_
      | with_reducible refine p_then_r ?_
      | with_reducible refine p_then_e ?_
      | with_reducible refine p_blk_n ?_
      | with_reducible refine p_blk_r ?_
      | with_reducible refine p_blk_hit (by with_unfolding_all exact rfl) ?_
      | with_reducible refine p_blk_miss (by with_unfolding_all exact rfl) ?_
      | with_reducible refine p_ret (by with_unfolding_all exact rfl) (by with_unfolding_all first | exact trivial | (repeat' (first | exact rfl | refine And.intro ?_ ?_ | omega | (simp only [decide_eq_true_eq, decide_eq_false_iff_not] at *; omega) | (simp; done)))) ?_
      | with_reducible refine p_ret_n (by with_unfolding_all exact rfl) (by with_unfolding_all first | exact trivial | (repeat' (first | exact rfl | refine And.intro ?_ ?_ | omega | (simp only [decide_eq_true_eq, decide_eq_false_iff_not] at *; omega) | (simp; done)))) ?_
      | with_reducible refine ops_lit (by with_unfolding_all exact rfl) (by with_unfolding_all exact rfl) (by with_unfolding_all exact rfl) (by with_unfolding_all exact rfl) (by with_unfolding_all first | exact trivial | (repeat' (first | exact rfl | refine And.intro ?_ ?_ | omega | (simp only [decide_eq_true_eq, decide_eq_false_iff_not] at *; omega) | (simp; done)))) ?_
      | with_reducible refine c_byt (by with_unfolding_all exact rfl) (by assumption) ?_
      | with_reducible refine c_byf (by with_unfolding_all exact rfl) (by assumption) ?_
      | with_reducible refine draw_lit (by with_unfolding_all exact rfl) (by with_unfolding_all exact rfl) (by with_unfolding_all exact rfl) (by with_unfolding_all exact rfl) (by with_unfolding_all exact rfl) (by with_unfolding_all first | exact trivial | (repeat' (first | exact rfl | refine And.intro ?_ ?_ | omega | (simp only [decide_eq_true_eq, decide_eq_false_iff_not] at *; omega) | (simp; done)))) ?_
      | with_reducible refine draw_by (r := true) (by with_unfolding_all exact rfl) (by with_unfolding_all exact rfl) (by assumption) (by with_unfolding_all exact rfl) ?_
      | with_reducible refine draw_by (r := false) (by with_unfolding_all exact rfl) (by with_unfolding_all exact rfl) (by assumption) (by with_unfolding_all exact rfl) ?_
      | with_reducible refine ops_by (r := true) (by with_unfolding_all exact rfl) (by assumption) (by with_unfolding_all exact rfl) ?_
      | with_reducible refine ops_by (r := false) (by with_unfolding_all exact rfl) (by assumption) (by with_unfolding_all exact rfl) ?_
      | (with_reducible refine c_split (by with_unfolding_all exact rfl) ?_ ?_ <;> (intro h; try (exfalso; simp at h; done)))
      | (with_reducible refine draw_split (by with_unfolding_all exact rfl) (by with_unfolding_all exact rfl) (by with_unfolding_all exact rfl) (by with_unfolding_all exact rfl) ?_ ?_ <;> (intro h; try (exfalso; simp at h; done)))
      | (with_reducible refine ops_split (by with_unfolding_all exact rfl) (by with_unfolding_all exact rfl) (by with_unfolding_all exact rfl) ?_ ?_ <;> (intro h; try (exfalso; simp at h; done)))))
  all_goals (with_reducible refine gcS_go [] (by with_unfolding_all exact rfl) (by with_unfolding_all exact trivial) ?_)
  all_goals exact ⟨rfl, rfl⟩
theorem next_sound : Sound Try.prog 16 fun args H k => ∃ a, args = [.int .u16 a] ∧ k (.int .u16 (IntKind.u16.wrap (a + 1))) H := by
  refine sound_plain hNG hmix ?_
  rintro args H k ⟨a, rfl, hk⟩
  exact ⟨30, _, next_ev a, fun r => rfl, fun r => rfl, rfl, hk⟩

theorem newer_ev (b q b2 q2 : Int) : evF Try.prog 30 15 [.agg [.int .u16 b, .int .u16 q], .agg [.int .u16 b2, .int .u16 q2]] [] (gcS 0 fun v H => v = .bool (newerB b q b2 q2) ∧ H = []) := by
  ((with_reducible refine evF_go (by with_unfolding_all exact rfl) (by with_unfolding_all exact rfl) ?_); repeat' (first
      | with_reducible refine c_seq ?_
      | with_reducible refine p_then_n ?_
      | with_reducible refine p_nrm ?_
      | with_reducible refine c_region (by with_unfolding_all exact rfl) ?_
      | with_reducible refine ops_run (by with_unfolding_all exact rfl) (by with_unfolding_all exact rfl) (by with_unfolding_all first | exact trivial | (repeat' (first | exact rfl | refine And.intro ?_ ?_ | omega | (simp only [decide_eq_true_eq, decide_eq_false_iff_not] at *; omega) | (simp; done)))) ?_
      | with_reducible refine ops_nil ?_
      | (with_reducible refine ops_step (by with_unfolding_all exact rfl) (call_law newerI_sound (by with_unfolding_all exact rfl) (by with_unfolding_all exact rfl) ?_); refine ⟨_, _, rfl, ?_⟩)
      | (with_reducible refine one_step (by with_unfolding_all exact rfl) (call_law newerI_sound (by with_unfolding_all exact rfl) (by with_unfolding_all exact rfl) ?_); refine ⟨_, _, rfl, ?_⟩)
      | with_reducible refine ops_step (by with_unfolding_all exact rfl) (call_text (by with_unfolding_all exact rfl) (by with_unfolding_all exact rfl) (by with_unfolding_all exact rfl) ?_)
      | with_reducible refine one_step (by with_unfolding_all exact rfl) (call_text (by with_unfolding_all exact rfl) (by with_unfolding_all exact rfl) (by with_unfolding_all exact rfl) ?_)
      | with_reducible refine aft_go (by with_unfolding_all exact rfl) ?_
      | (with_reducible refine ops_step (by with_unfolding_all exact rfl) (look_go (by with_unfolding_all exact rfl) (fun g h => ?_) (fun h => ?_)) <;> (try (exfalso; simp at h; done)))
      | (with_reducible refine one_step (by with_unfolding_all exact rfl) (look_go (by with_unfolding_all exact rfl) (fun g h => ?_) (fun h => ?_)) <;> (try (exfalso; simp at h; done)))
      | with_reducible refine c_draw (by with_unfolding_all exact rfl) (by with_unfolding_all exact rfl) (by with_unfolding_all exact rfl) ?_
      | with_reducible refine draw_run (by with_unfolding_all exact rfl) (by with_unfolding_all exact rfl) (by with_unfolding_all first | exact trivial | (repeat' (first | exact rfl | refine And.intro ?_ ?_ | omega | (simp only [decide_eq_true_eq, decide_eq_false_iff_not] at *; omega) | (simp; done)))) ?_
      | with_reducible refine draw_done (by with_unfolding_all exact rfl) ?_
      | with_reducible refine draw_many (by with_unfolding_all exact rfl) (by with_unfolding_all exact rfl) ?_
      | with_reducible refine allD_one ?_
      | with_reducible refine one_step (by with_unfolding_all exact rfl) (stp_eff (by with_unfolding_all exact rfl) (by with_unfolding_all exact rfl) (by with_unfolding_all first | exact trivial | (repeat' (first | exact rfl | refine And.intro ?_ ?_ | omega | (simp only [decide_eq_true_eq, decide_eq_false_iff_not] at *; omega) | (simp; done)))) ?_)
      | with_reducible refine aftD_go (by with_unfolding_all exact rfl) (by with_unfolding_all exact rfl) (by with_unfolding_all first | exact trivial | (repeat' (first | exact rfl | refine And.intro ?_ ?_ | omega | (simp only [decide_eq_true_eq, decide_eq_false_iff_not] at *; omega) | (simp; done)))) ?_
      | with_reducible refine allD_more ?_ ?_
      | with_reducible refine c_t (by with_unfolding_all exact rfl) ?_
      | with_reducible refine c_f (by with_unfolding_all exact rfl) ?_
      | with_reducible refine c_ret ?_
      | with_reducible refine c_exit ?_
      | with_reducible refine c_skip ?_
      | with_reducible refine c_block ?_
      | with_reducible refine p_then_r ?_
      | with_reducible refine p_then_e ?_
      | with_reducible refine p_blk_n ?_
      | with_reducible refine p_blk_r ?_
      | with_reducible refine p_blk_hit (by with_unfolding_all exact rfl) ?_
      | with_reducible refine p_blk_miss (by with_unfolding_all exact rfl) ?_
      | with_reducible refine p_ret (by with_unfolding_all exact rfl) (by with_unfolding_all first | exact trivial | (repeat' (first | exact rfl | refine And.intro ?_ ?_ | omega | (simp only [decide_eq_true_eq, decide_eq_false_iff_not] at *; omega) | (simp; done)))) ?_
      | with_reducible refine p_ret_n (by with_unfolding_all exact rfl) (by with_unfolding_all first | exact trivial | (repeat' (first | exact rfl | refine And.intro ?_ ?_ | omega | (simp only [decide_eq_true_eq, decide_eq_false_iff_not] at *; omega) | (simp; done)))) ?_
      | with_reducible refine ops_lit (by with_unfolding_all exact rfl) (by with_unfolding_all exact rfl) (by with_unfolding_all exact rfl) (by with_unfolding_all exact rfl) (by with_unfolding_all first | exact trivial | (repeat' (first | exact rfl | refine And.intro ?_ ?_ | omega | (simp only [decide_eq_true_eq, decide_eq_false_iff_not] at *; omega) | (simp; done)))) ?_
      | with_reducible refine c_byt (by with_unfolding_all exact rfl) (by assumption) ?_
      | with_reducible refine c_byf (by with_unfolding_all exact rfl) (by assumption) ?_
      | with_reducible refine draw_lit (by with_unfolding_all exact rfl) (by with_unfolding_all exact rfl) (by with_unfolding_all exact rfl) (by with_unfolding_all exact rfl) (by with_unfolding_all exact rfl) (by with_unfolding_all first | exact trivial | (repeat' (first | exact rfl | refine And.intro ?_ ?_ | omega | (simp only [decide_eq_true_eq, decide_eq_false_iff_not] at *; omega) | (simp; done)))) ?_
      | with_reducible refine draw_by (r := true) (by with_unfolding_all exact rfl) (by with_unfolding_all exact rfl) (by assumption) (by with_unfolding_all exact rfl) ?_
      | with_reducible refine draw_by (r := false) (by with_unfolding_all exact rfl) (by with_unfolding_all exact rfl) (by assumption) (by with_unfolding_all exact rfl) ?_
      | with_reducible refine ops_by (r := true) (by with_unfolding_all exact rfl) (by assumption) (by with_unfolding_all exact rfl) ?_
      | with_reducible refine ops_by (r := false) (by with_unfolding_all exact rfl) (by assumption) (by with_unfolding_all exact rfl) ?_
      | (with_reducible refine c_split (by with_unfolding_all exact rfl) ?_ ?_ <;> (intro h; try (exfalso; simp at h; done)))
      | (with_reducible refine draw_split (by with_unfolding_all exact rfl) (by with_unfolding_all exact rfl) (by with_unfolding_all exact rfl) (by with_unfolding_all exact rfl) ?_ ?_ <;> (intro h; try (exfalso; simp at h; done)))
      | (with_reducible refine ops_split (by with_unfolding_all exact rfl) (by with_unfolding_all exact rfl) (by with_unfolding_all exact rfl) ?_ ?_ <;> (intro h; try (exfalso; simp at h; done)))))
  all_goals (with_reducible refine gcS_go [] (by with_unfolding_all exact rfl) (by with_unfolding_all exact trivial) ?_)
  all_goals (refine ⟨?_, rfl⟩; simp only [newerB]; simp_all)
theorem newer_sound : Sound Try.prog 15 fun args H k => ∃ b q b2 q2, args = [.agg [.int .u16 b, .int .u16 q], .agg [.int .u16 b2, .int .u16 q2]] ∧ k (.bool (newerB b q b2 q2)) H := by
  refine sound_plain hNG hmix ?_
  rintro args H k ⟨b, q, b2, q2, rfl, hk⟩
  exact ⟨30, _, newer_ev b q b2 q2, fun r => rfl, fun r => rfl, rfl, hk⟩

theorem good_ev (to ig : Int) : evF Try.prog 30 13 [.agg [.int .i64 to, .int .i64 ig]] [] (gcS 0 fun v H => v = .bool (goodB to ig) ∧ H = []) := by
  ((with_reducible refine evF_go (by with_unfolding_all exact rfl) (by with_unfolding_all exact rfl) ?_); repeat' (first
      | with_reducible refine c_seq ?_
      | with_reducible refine p_then_n ?_
      | with_reducible refine p_nrm ?_
      | with_reducible refine c_region (by with_unfolding_all exact rfl) ?_
      | with_reducible refine ops_run (by with_unfolding_all exact rfl) (by with_unfolding_all exact rfl) (by with_unfolding_all first | exact trivial | (repeat' (first | exact rfl | refine And.intro ?_ ?_ | omega | (simp only [decide_eq_true_eq, decide_eq_false_iff_not] at *; omega) | (simp; done)))) ?_
      | with_reducible refine ops_nil ?_
      | with_reducible refine ops_step (by with_unfolding_all exact rfl) (call_text (by with_unfolding_all exact rfl) (by with_unfolding_all exact rfl) (by with_unfolding_all exact rfl) ?_)
      | with_reducible refine one_step (by with_unfolding_all exact rfl) (call_text (by with_unfolding_all exact rfl) (by with_unfolding_all exact rfl) (by with_unfolding_all exact rfl) ?_)
      | with_reducible refine aft_go (by with_unfolding_all exact rfl) ?_
      | (with_reducible refine ops_step (by with_unfolding_all exact rfl) (look_go (by with_unfolding_all exact rfl) (fun g h => ?_) (fun h => ?_)) <;> (try (exfalso; simp at h; done)))
      | (with_reducible refine one_step (by with_unfolding_all exact rfl) (look_go (by with_unfolding_all exact rfl) (fun g h => ?_) (fun h => ?_)) <;> (try (exfalso; simp at h; done)))
      | with_reducible refine c_draw (by with_unfolding_all exact rfl) (by with_unfolding_all exact rfl) (by with_unfolding_all exact rfl) ?_
      | with_reducible refine draw_run (by with_unfolding_all exact rfl) (by with_unfolding_all exact rfl) (by with_unfolding_all first | exact trivial | (repeat' (first | exact rfl | refine And.intro ?_ ?_ | omega | (simp only [decide_eq_true_eq, decide_eq_false_iff_not] at *; omega) | (simp; done)))) ?_
      | with_reducible refine draw_done (by with_unfolding_all exact rfl) ?_
      | with_reducible refine draw_many (by with_unfolding_all exact rfl) (by with_unfolding_all exact rfl) ?_
      | with_reducible refine allD_one ?_
      | with_reducible refine one_step (by with_unfolding_all exact rfl) (stp_eff (by with_unfolding_all exact rfl) (by with_unfolding_all exact rfl) (by with_unfolding_all first | exact trivial | (repeat' (first | exact rfl | refine And.intro ?_ ?_ | omega | (simp only [decide_eq_true_eq, decide_eq_false_iff_not] at *; omega) | (simp; done)))) ?_)
      | with_reducible refine aftD_go (by with_unfolding_all exact rfl) (by with_unfolding_all exact rfl) (by with_unfolding_all first | exact trivial | (repeat' (first | exact rfl | refine And.intro ?_ ?_ | omega | (simp only [decide_eq_true_eq, decide_eq_false_iff_not] at *; omega) | (simp; done)))) ?_
      | with_reducible refine allD_more ?_ ?_
      | with_reducible refine c_t (by with_unfolding_all exact rfl) ?_
      | with_reducible refine c_f (by with_unfolding_all exact rfl) ?_
      | with_reducible refine c_ret ?_
      | with_reducible refine c_exit ?_
      | with_reducible refine c_skip ?_
      | with_reducible refine c_block ?_
      | with_reducible refine p_then_r ?_
      | with_reducible refine p_then_e ?_
      | with_reducible refine p_blk_n ?_
      | with_reducible refine p_blk_r ?_
      | with_reducible refine p_blk_hit (by with_unfolding_all exact rfl) ?_
      | with_reducible refine p_blk_miss (by with_unfolding_all exact rfl) ?_
      | with_reducible refine p_ret (by with_unfolding_all exact rfl) (by with_unfolding_all first | exact trivial | (repeat' (first | exact rfl | refine And.intro ?_ ?_ | omega | (simp only [decide_eq_true_eq, decide_eq_false_iff_not] at *; omega) | (simp; done)))) ?_
      | with_reducible refine p_ret_n (by with_unfolding_all exact rfl) (by with_unfolding_all first | exact trivial | (repeat' (first | exact rfl | refine And.intro ?_ ?_ | omega | (simp only [decide_eq_true_eq, decide_eq_false_iff_not] at *; omega) | (simp; done)))) ?_
      | with_reducible refine ops_lit (by with_unfolding_all exact rfl) (by with_unfolding_all exact rfl) (by with_unfolding_all exact rfl) (by with_unfolding_all exact rfl) (by with_unfolding_all first | exact trivial | (repeat' (first | exact rfl | refine And.intro ?_ ?_ | omega | (simp only [decide_eq_true_eq, decide_eq_false_iff_not] at *; omega) | (simp; done)))) ?_
      | with_reducible refine c_byt (by with_unfolding_all exact rfl) (by assumption) ?_
      | with_reducible refine c_byf (by with_unfolding_all exact rfl) (by assumption) ?_
      | with_reducible refine draw_lit (by with_unfolding_all exact rfl) (by with_unfolding_all exact rfl) (by with_unfolding_all exact rfl) (by with_unfolding_all exact rfl) (by with_unfolding_all exact rfl) (by with_unfolding_all first | exact trivial | (repeat' (first | exact rfl | refine And.intro ?_ ?_ | omega | (simp only [decide_eq_true_eq, decide_eq_false_iff_not] at *; omega) | (simp; done)))) ?_
      | with_reducible refine draw_by (r := true) (by with_unfolding_all exact rfl) (by with_unfolding_all exact rfl) (by assumption) (by with_unfolding_all exact rfl) ?_
      | with_reducible refine draw_by (r := false) (by with_unfolding_all exact rfl) (by with_unfolding_all exact rfl) (by assumption) (by with_unfolding_all exact rfl) ?_
      | with_reducible refine ops_by (r := true) (by with_unfolding_all exact rfl) (by assumption) (by with_unfolding_all exact rfl) ?_
      | with_reducible refine ops_by (r := false) (by with_unfolding_all exact rfl) (by assumption) (by with_unfolding_all exact rfl) ?_
      | (with_reducible refine c_split (by with_unfolding_all exact rfl) ?_ ?_ <;> (intro h; try (exfalso; simp at h; done)))
      | (with_reducible refine draw_split (by with_unfolding_all exact rfl) (by with_unfolding_all exact rfl) (by with_unfolding_all exact rfl) (by with_unfolding_all exact rfl) ?_ ?_ <;> (intro h; try (exfalso; simp at h; done)))
      | (with_reducible refine ops_split (by with_unfolding_all exact rfl) (by with_unfolding_all exact rfl) (by with_unfolding_all exact rfl) ?_ ?_ <;> (intro h; try (exfalso; simp at h; done)))))
  all_goals (with_reducible refine gcS_go [] (by with_unfolding_all exact rfl) (by with_unfolding_all exact trivial) ?_)
  all_goals (refine ⟨?_, rfl⟩; simp only [goodB]; simp_all <;> omega)
theorem good_sound : Sound Try.prog 13 fun args H k => ∃ to ig, args = [.agg [.int .i64 to, .int .i64 ig]] ∧ k (.bool (goodB to ig)) H := by
  refine sound_plain hNG hmix ?_
  rintro args H k ⟨to, ig, rfl, hk⟩
  exact ⟨30, _, good_ev to ig, fun r => rfl, fun r => rfl, rfl, hk⟩

theorem set_same {H : List Ob} {l : Nat} {o : Ob} (h : H[l]? = some o) : H.set l o = H := by
  obtain ⟨h1, h2⟩ := List.getElem?_eq_some_iff.1 h
  subst h2
  exact List.set_getElem_self h1

theorem mine_ev (s : St) : evF Try.prog 60 12 [.ptr 0 0 0] [elO s 1, mpO s] (gcS 2 fun v H => v = .bool (mineB s) ∧ H = [elO (s) 1, mpO (s)]) := by
  ((with_reducible refine evF_go (by with_unfolding_all exact rfl) (by with_unfolding_all exact rfl) ?_); repeat' (first
      | with_reducible refine c_seq ?_
      | with_reducible refine p_then_n ?_
      | with_reducible refine p_nrm ?_
      | with_reducible refine c_region (by with_unfolding_all exact rfl) ?_
      | with_reducible refine ops_run (by with_unfolding_all exact rfl) (by with_unfolding_all exact rfl) (by with_unfolding_all first | exact trivial | (repeat' (first | exact rfl | refine And.intro ?_ ?_ | omega | (simp only [decide_eq_true_eq, decide_eq_false_iff_not] at *; omega) | (simp; done)))) ?_
      | with_reducible refine ops_nil ?_
      | with_reducible refine ops_step (by with_unfolding_all exact rfl) (call_text (by with_unfolding_all exact rfl) (by with_unfolding_all exact rfl) (by with_unfolding_all exact rfl) ?_)
      | with_reducible refine one_step (by with_unfolding_all exact rfl) (call_text (by with_unfolding_all exact rfl) (by with_unfolding_all exact rfl) (by with_unfolding_all exact rfl) ?_)
      | with_reducible refine aft_go (by with_unfolding_all exact rfl) ?_
      | (with_reducible refine ops_step (by with_unfolding_all exact rfl) (look_go (by with_unfolding_all exact rfl) (fun g h => ?_) (fun h => ?_)) <;> (try (exfalso; simp at h; done)))
      | (with_reducible refine one_step (by with_unfolding_all exact rfl) (look_go (by with_unfolding_all exact rfl) (fun g h => ?_) (fun h => ?_)) <;> (try (exfalso; simp at h; done)))
      | with_reducible refine c_draw (by with_unfolding_all exact rfl) (by with_unfolding_all exact rfl) (by with_unfolding_all exact rfl) ?_
      | with_reducible refine draw_run (by with_unfolding_all exact rfl) (by with_unfolding_all exact rfl) (by with_unfolding_all first | exact trivial | (repeat' (first | exact rfl | refine And.intro ?_ ?_ | omega | (simp only [decide_eq_true_eq, decide_eq_false_iff_not] at *; omega) | (simp; done)))) ?_
      | with_reducible refine draw_done (by with_unfolding_all exact rfl) ?_
      | with_reducible refine draw_many (by with_unfolding_all exact rfl) (by with_unfolding_all exact rfl) ?_
      | with_reducible refine allD_one ?_
      | with_reducible refine one_step (by with_unfolding_all exact rfl) (stp_eff (by with_unfolding_all exact rfl) (by with_unfolding_all exact rfl) (by with_unfolding_all first | exact trivial | (repeat' (first | exact rfl | refine And.intro ?_ ?_ | omega | (simp only [decide_eq_true_eq, decide_eq_false_iff_not] at *; omega) | (simp; done)))) ?_)
      | with_reducible refine aftD_go (by with_unfolding_all exact rfl) (by with_unfolding_all exact rfl) (by with_unfolding_all first | exact trivial | (repeat' (first | exact rfl | refine And.intro ?_ ?_ | omega | (simp only [decide_eq_true_eq, decide_eq_false_iff_not] at *; omega) | (simp; done)))) ?_
      | with_reducible refine allD_more ?_ ?_
      | with_reducible refine c_t (by with_unfolding_all exact rfl) ?_
      | with_reducible refine c_f (by with_unfolding_all exact rfl) ?_
      | with_reducible refine c_ret ?_
      | with_reducible refine c_exit ?_
      | with_reducible refine c_skip ?_
      | with_reducible refine c_block ?_
      | with_reducible refine p_then_r ?_
      | with_reducible refine p_then_e ?_
      | with_reducible refine p_blk_n ?_
      | with_reducible refine p_blk_r ?_
      | with_reducible refine p_blk_hit (by with_unfolding_all exact rfl) ?_
      | with_reducible refine p_blk_miss (by with_unfolding_all exact rfl) ?_
      | with_reducible refine p_ret (by with_unfolding_all exact rfl) (by with_unfolding_all first | exact trivial | (repeat' (first | exact rfl | refine And.intro ?_ ?_ | omega | (simp only [decide_eq_true_eq, decide_eq_false_iff_not] at *; omega) | (simp; done)))) ?_
      | with_reducible refine p_ret_n (by with_unfolding_all exact rfl) (by with_unfolding_all first | exact trivial | (repeat' (first | exact rfl | refine And.intro ?_ ?_ | omega | (simp only [decide_eq_true_eq, decide_eq_false_iff_not] at *; omega) | (simp; done)))) ?_
      | with_reducible refine ops_lit (by with_unfolding_all exact rfl) (by with_unfolding_all exact rfl) (by with_unfolding_all exact rfl) (by with_unfolding_all exact rfl) (by with_unfolding_all first | exact trivial | (repeat' (first | exact rfl | refine And.intro ?_ ?_ | omega | (simp only [decide_eq_true_eq, decide_eq_false_iff_not] at *; omega) | (simp; done)))) ?_
      | with_reducible refine c_byt (by with_unfolding_all exact rfl) (by assumption) ?_
      | with_reducible refine c_byf (by with_unfolding_all exact rfl) (by assumption) ?_
      | with_reducible refine draw_lit (by with_unfolding_all exact rfl) (by with_unfolding_all exact rfl) (by with_unfolding_all exact rfl) (by with_unfolding_all exact rfl) (by with_unfolding_all exact rfl) (by with_unfolding_all first | exact trivial | (repeat' (first | exact rfl | refine And.intro ?_ ?_ | omega | (simp only [decide_eq_true_eq, decide_eq_false_iff_not] at *; omega) | (simp; done)))) ?_
      | with_reducible refine draw_by (r := true) (by with_unfolding_all exact rfl) (by with_unfolding_all exact rfl) (by assumption) (by with_unfolding_all exact rfl) ?_
      | with_reducible refine draw_by (r := false) (by with_unfolding_all exact rfl) (by with_unfolding_all exact rfl) (by assumption) (by with_unfolding_all exact rfl) ?_
      | with_reducible refine ops_by (r := true) (by with_unfolding_all exact rfl) (by assumption) (by with_unfolding_all exact rfl) ?_
      | with_reducible refine ops_by (r := false) (by with_unfolding_all exact rfl) (by assumption) (by with_unfolding_all exact rfl) ?_
      | (with_reducible refine c_split (by with_unfolding_all exact rfl) ?_ ?_ <;> (intro h; try (exfalso; simp at h; done)))
      | (with_reducible refine draw_split (by with_unfolding_all exact rfl) (by with_unfolding_all exact rfl) (by with_unfolding_all exact rfl) (by with_unfolding_all exact rfl) ?_ ?_ <;> (intro h; try (exfalso; simp at h; done)))
      | (with_reducible refine ops_split (by with_unfolding_all exact rfl) (by with_unfolding_all exact rfl) (by with_unfolding_all exact rfl) ?_ ?_ <;> (intro h; try (exfalso; simp at h; done)))))
  all_goals (with_reducible refine gcS_go [some 0, some 1] (by with_unfolding_all exact rfl) (by with_unfolding_all exact trivial) ?_)
  all_goals (refine ⟨?_, rfl⟩; simp only [mineB]; simp_all)
theorem mine_sound : Sound Try.prog 12 fun args H k => ∃ (s : St) (l lm : Nat), args = [.ptr l 0 0] ∧ H[l]? = some (elO s lm) ∧ H[lm]? = some (mpO s) ∧ l ≠ lm ∧ k (.bool (mineB s)) H := by
  refine sound_small hNG hmix ?_
  rintro args H k ⟨s, l, lm, rfl, h1, h2, hne, hk⟩
  refine ⟨60, _, _, [l, lm], _, mine_ev s, rfl, stands_of (by simp [hne]) ⟨h1, h2, trivial⟩, labH2 trivial trivial, rfl, by simp [elO, mpO, Ob.live], ?_⟩
  rintro v H' ⟨rfl, rfl⟩
  refine ⟨fun j o hj h => (by rw [List.getElem?_eq_none (by simpa using hj)] at h; cases h), ?_⟩
  rw [show merge (rho [l, lm] H.length) [l, lm] [elO s 1, mpO s] H = (H.set l (elO s lm)).set lm (mpO s) ++ [] from rfl, List.append_nil, set_same h1, set_same h2]; exact hk

theorem may_ev (s : St) (root : Int) : evF Try.prog 60 14 [.ptr 0 0 0, .int .i64 root] [elO s 1, mpO s] (gcS 2 fun v H => v = .bool (mayB s root) ∧ H = [elO (s) 1, mpO (s)]) := by
  ((with_reducible refine evF_go (by with_unfolding_all exact rfl) (by with_unfolding_all exact rfl) ?_); repeat' (first
      | with_reducible refine c_seq ?_
      | with_reducible refine p_then_n ?_
      | with_reducible refine p_nrm ?_
      | with_reducible refine c_region (by with_unfolding_all exact rfl) ?_
      | with_reducible refine ops_run (by with_unfolding_all exact rfl) (by with_unfolding_all exact rfl) (by with_unfolding_all first | exact trivial | (repeat' (first | exact rfl | refine And.intro ?_ ?_ | omega | (simp only [decide_eq_true_eq, decide_eq_false_iff_not] at *; omega) | (simp; done)))) ?_
      | with_reducible refine ops_nil ?_
      | (with_reducible refine ops_step (by with_unfolding_all exact rfl) (call_law mine_sound (by with_unfolding_all exact rfl) (by with_unfolding_all exact rfl) ?_); first | refine ⟨_, _, _, rfl, rfl, rfl, (by first | decide | assumption | omega), ?_⟩ | refine ⟨⟨_, _, _, _, _, _, _, _, _⟩, _, _, rfl, rfl, rfl, (by first | decide | assumption | omega), ?_⟩)
      | (with_reducible refine one_step (by with_unfolding_all exact rfl) (call_law mine_sound (by with_unfolding_all exact rfl) (by with_unfolding_all exact rfl) ?_); first | refine ⟨_, _, _, rfl, rfl, rfl, (by first | decide | assumption | omega), ?_⟩ | refine ⟨⟨_, _, _, _, _, _, _, _, _⟩, _, _, rfl, rfl, rfl, (by first | decide | assumption | omega), ?_⟩)
      | with_reducible refine ops_step (by with_unfolding_all exact rfl) (call_text (by with_unfolding_all exact rfl) (by with_unfolding_all exact rfl) (by with_unfolding_all exact rfl) ?_)
      | with_reducible refine one_step (by with_unfolding_all exact rfl) (call_text (by with_unfolding_all exact rfl) (by with_unfolding_all exact rfl) (by with_unfolding_all exact rfl) ?_)
      | with_reducible refine aft_go (by with_unfolding_all exact rfl) ?_
      | (with_reducible refine ops_step (by with_unfolding_all exact rfl) (look_go (by with_unfolding_all exact rfl) (fun g h => ?_) (fun h => ?_)) <;> (try (exfalso; simp at h; done)))
      | (with_reducible refine one_step (by with_unfolding_all exact rfl) (look_go (by with_unfolding_all exact rfl) (fun g h => ?_) (fun h => ?_)) <;> (try (exfalso; simp at h; done)))
      | with_reducible refine c_draw (by with_unfolding_all exact rfl) (by with_unfolding_all exact rfl) (by with_unfolding_all exact rfl) ?_
      | with_reducible refine draw_run (by with_unfolding_all exact rfl) (by with_unfolding_all exact rfl) (by with_unfolding_all first | exact trivial | (repeat' (first | exact rfl | refine And.intro ?_ ?_ | omega | (simp only [decide_eq_true_eq, decide_eq_false_iff_not] at *; omega) | (simp; done)))) ?_
      | with_reducible refine draw_done (by with_unfolding_all exact rfl) ?_
      | with_reducible refine draw_many (by with_unfolding_all exact rfl) (by with_unfolding_all exact rfl) ?_
      | with_reducible refine allD_one ?_
      | with_reducible refine one_step (by with_unfolding_all exact rfl) (stp_eff (by with_unfolding_all exact rfl) (by with_unfolding_all exact rfl) (by with_unfolding_all first | exact trivial | (repeat' (first | exact rfl | refine And.intro ?_ ?_ | omega | (simp only [decide_eq_true_eq, decide_eq_false_iff_not] at *; omega) | (simp; done)))) ?_)
      | with_reducible refine aftD_go (by with_unfolding_all exact rfl) (by with_unfolding_all exact rfl) (by with_unfolding_all first | exact trivial | (repeat' (first | exact rfl | refine And.intro ?_ ?_ | omega | (simp only [decide_eq_true_eq, decide_eq_false_iff_not] at *; omega) | (simp; done)))) ?_
      | with_reducible refine allD_more ?_ ?_
      | with_reducible refine c_t (by with_unfolding_all exact rfl) ?_
      | with_reducible refine c_f (by with_unfolding_all exact rfl) ?_
      | with_reducible refine c_ret ?_
      | with_reducible refine c_exit ?_
      | with_reducible refine c_skip ?_
      | with_reducible refine c_block ?_
      | with_reducible refine p_then_r ?_
      | with_reducible refine p_then_e ?_
      | with_reducible refine p_blk_n ?_
      | with_reducible refine p_blk_r ?_
      | with_reducible refine p_blk_hit (by with_unfolding_all exact rfl) ?_
      | with_reducible refine p_blk_miss (by with_unfolding_all exact rfl) ?_
      | with_reducible refine p_ret (by with_unfolding_all exact rfl) (by with_unfolding_all first | exact trivial | (repeat' (first | exact rfl | refine And.intro ?_ ?_ | omega | (simp only [decide_eq_true_eq, decide_eq_false_iff_not] at *; omega) | (simp; done)))) ?_
      | with_reducible refine p_ret_n (by with_unfolding_all exact rfl) (by with_unfolding_all first | exact trivial | (repeat' (first | exact rfl | refine And.intro ?_ ?_ | omega | (simp only [decide_eq_true_eq, decide_eq_false_iff_not] at *; omega) | (simp; done)))) ?_
      | with_reducible refine ops_lit (by with_unfolding_all exact rfl) (by with_unfolding_all exact rfl) (by with_unfolding_all exact rfl) (by with_unfolding_all exact rfl) (by with_unfolding_all first | exact trivial | (repeat' (first | exact rfl | refine And.intro ?_ ?_ | omega | (simp only [decide_eq_true_eq, decide_eq_false_iff_not] at *; omega) | (simp; done)))) ?_
      | with_reducible refine c_byt (by with_unfolding_all exact rfl) (by assumption) ?_
      | with_reducible refine c_byf (by with_unfolding_all exact rfl) (by assumption) ?_
      | with_reducible refine draw_lit (by with_unfolding_all exact rfl) (by with_unfolding_all exact rfl) (by with_unfolding_all exact rfl) (by with_unfolding_all exact rfl) (by with_unfolding_all exact rfl) (by with_unfolding_all first | exact trivial | (repeat' (first | exact rfl | refine And.intro ?_ ?_ | omega | (simp only [decide_eq_true_eq, decide_eq_false_iff_not] at *; omega) | (simp; done)))) ?_
      | with_reducible refine draw_by (r := true) (by with_unfolding_all exact rfl) (by with_unfolding_all exact rfl) (by assumption) (by with_unfolding_all exact rfl) ?_
      | with_reducible refine draw_by (r := false) (by with_unfolding_all exact rfl) (by with_unfolding_all exact rfl) (by assumption) (by with_unfolding_all exact rfl) ?_
      | with_reducible refine ops_by (r := true) (by with_unfolding_all exact rfl) (by assumption) (by with_unfolding_all exact rfl) ?_
      | with_reducible refine ops_by (r := false) (by with_unfolding_all exact rfl) (by assumption) (by with_unfolding_all exact rfl) ?_
      | (with_reducible refine c_split (by with_unfolding_all exact rfl) ?_ ?_ <;> (intro h; try (exfalso; simp at h; done)))
      | (with_reducible refine draw_split (by with_unfolding_all exact rfl) (by with_unfolding_all exact rfl) (by with_unfolding_all exact rfl) (by with_unfolding_all exact rfl) ?_ ?_ <;> (intro h; try (exfalso; simp at h; done)))
      | (with_reducible refine ops_split (by with_unfolding_all exact rfl) (by with_unfolding_all exact rfl) (by with_unfolding_all exact rfl) ?_ ?_ <;> (intro h; try (exfalso; simp at h; done)))))
  all_goals (with_reducible refine gcS_go [some 0, some 1] (by with_unfolding_all exact rfl) (by with_unfolding_all exact trivial) ?_)
  all_goals (simp only [mayB, mineB] at *; refine ⟨?_, ?_⟩ <;> first | rfl | (simp_all; done) | (simp_all; rw [Bool.eq_iff_iff]; simp; omega) | (simp_all; omega) )
theorem may_sound : Sound Try.prog 14 fun args H k => ∃ (s : St) (l lm : Nat) (root : Int), args = [.ptr l 0 0, .int .i64 root] ∧ H[l]? = some (elO s lm) ∧ H[lm]? = some (mpO s) ∧ l ≠ lm ∧ k (.bool (mayB s root)) H := by
  refine sound_small hNG hmix ?_
  rintro args H k ⟨s, l, lm, root, rfl, h1, h2, hne, hk⟩
  refine ⟨60, _, _, [l, lm], _, may_ev s root, rfl, stands_of (by simp [hne]) ⟨h1, h2, trivial⟩, labH2 trivial trivial, rfl, by simp [elO, mpO, Ob.live], ?_⟩
  rintro v H' ⟨rfl, rfl⟩
  refine ⟨fun j o hj h => (by rw [List.getElem?_eq_none (by simpa using hj)] at h; cases h), ?_⟩
  rw [show merge (rho [l, lm] H.length) [l, lm] [elO s 1, mpO s] H = (H.set l (elO s lm)).set lm (mpO s) ++ [] from rfl, List.append_nil, set_same h1, set_same h2]; exact hk

theorem root_ev (s : St) : evF Try.prog 60 11 [.ptr 0 0 0] [elO s 1, mpO s] (gcS 2 fun v H => v = .int .i64 s.root ∧ H = [elO (s) 1, mpO (s)]) := by
  ((with_reducible refine evF_go (by with_unfolding_all exact rfl) (by with_unfolding_all exact rfl) ?_); repeat' (first
      | with_reducible refine c_seq ?_
      | with_reducible refine p_then_n ?_
      | with_reducible refine p_nrm ?_
      | with_reducible refine c_region (by with_unfolding_all exact rfl) ?_
      | with_reducible refine ops_run (by with_unfolding_all exact rfl) (by with_unfolding_all exact rfl) (by with_unfolding_all first | exact trivial | (repeat' (first | exact rfl | refine And.intro ?_ ?_ | omega | (simp only [decide_eq_true_eq, decide_eq_false_iff_not] at *; omega) | (simp; done)))) ?_
      | with_reducible refine ops_nil ?_
      | with_reducible refine ops_step (by with_unfolding_all exact rfl) (call_text (by with_unfolding_all exact rfl) (by with_unfolding_all exact rfl) (by with_unfolding_all exact rfl) ?_)
      | with_reducible refine one_step (by with_unfolding_all exact rfl) (call_text (by with_unfolding_all exact rfl) (by with_unfolding_all exact rfl) (by with_unfolding_all exact rfl) ?_)
      | with_reducible refine aft_go (by with_unfolding_all exact rfl) ?_
      | (with_reducible refine ops_step (by with_unfolding_all exact rfl) (look_go (by with_unfolding_all exact rfl) (fun g h => ?_) (fun h => ?_)) <;> (try (exfalso; simp at h; done)))
      | (with_reducible refine one_step (by with_unfolding_all exact rfl) (look_go (by with_unfolding_all exact rfl) (fun g h => ?_) (fun h => ?_)) <;> (try (exfalso; simp at h; done)))
      | with_reducible refine c_draw (by with_unfolding_all exact rfl) (by with_unfolding_all exact rfl) (by with_unfolding_all exact rfl) ?_
      | with_reducible refine draw_run (by with_unfolding_all exact rfl) (by with_unfolding_all exact rfl) (by with_unfolding_all first | exact trivial | (repeat' (first | exact rfl | refine And.intro ?_ ?_ | omega | (simp only [decide_eq_true_eq, decide_eq_false_iff_not] at *; omega) | (simp; done)))) ?_
      | with_reducible refine draw_done (by with_unfolding_all exact rfl) ?_
      | with_reducible refine draw_many (by with_unfolding_all exact rfl) (by with_unfolding_all exact rfl) ?_
      | with_reducible refine allD_one ?_
      | with_reducible refine one_step (by with_unfolding_all exact rfl) (stp_eff (by with_unfolding_all exact rfl) (by with_unfolding_all exact rfl) (by with_unfolding_all first | exact trivial | (repeat' (first | exact rfl | refine And.intro ?_ ?_ | omega | (simp only [decide_eq_true_eq, decide_eq_false_iff_not] at *; omega) | (simp; done)))) ?_)
      | with_reducible refine aftD_go (by with_unfolding_all exact rfl) (by with_unfolding_all exact rfl) (by with_unfolding_all first | exact trivial | (repeat' (first | exact rfl | refine And.intro ?_ ?_ | omega | (simp only [decide_eq_true_eq, decide_eq_false_iff_not] at *; omega) | (simp; done)))) ?_
      | with_reducible refine allD_more ?_ ?_
      | with_reducible refine c_t (by with_unfolding_all exact rfl) ?_
      | with_reducible refine c_f (by with_unfolding_all exact rfl) ?_
      | with_reducible refine c_ret ?_
      | with_reducible refine c_exit ?_
      | with_reducible refine c_skip ?_
      | with_reducible refine c_block ?_
      | with_reducible refine p_then_r ?_
      | with_reducible refine p_then_e ?_
      | with_reducible refine p_blk_n ?_
      | with_reducible refine p_blk_r ?_
      | with_reducible refine p_blk_hit (by with_unfolding_all exact rfl) ?_
      | with_reducible refine p_blk_miss (by with_unfolding_all exact rfl) ?_
      | with_reducible refine p_ret (by with_unfolding_all exact rfl) (by with_unfolding_all first | exact trivial | (repeat' (first | exact rfl | refine And.intro ?_ ?_ | omega | (simp only [decide_eq_true_eq, decide_eq_false_iff_not] at *; omega) | (simp; done)))) ?_
      | with_reducible refine p_ret_n (by with_unfolding_all exact rfl) (by with_unfolding_all first | exact trivial | (repeat' (first | exact rfl | refine And.intro ?_ ?_ | omega | (simp only [decide_eq_true_eq, decide_eq_false_iff_not] at *; omega) | (simp; done)))) ?_
      | with_reducible refine ops_lit (by with_unfolding_all exact rfl) (by with_unfolding_all exact rfl) (by with_unfolding_all exact rfl) (by with_unfolding_all exact rfl) (by with_unfolding_all first | exact trivial | (repeat' (first | exact rfl | refine And.intro ?_ ?_ | omega | (simp only [decide_eq_true_eq, decide_eq_false_iff_not] at *; omega) | (simp; done)))) ?_
      | with_reducible refine c_byt (by with_unfolding_all exact rfl) (by assumption) ?_
      | with_reducible refine c_byf (by with_unfolding_all exact rfl) (by assumption) ?_
      | with_reducible refine draw_lit (by with_unfolding_all exact rfl) (by with_unfolding_all exact rfl) (by with_unfolding_all exact rfl) (by with_unfolding_all exact rfl) (by with_unfolding_all exact rfl) (by with_unfolding_all first | exact trivial | (repeat' (first | exact rfl | refine And.intro ?_ ?_ | omega | (simp only [decide_eq_true_eq, decide_eq_false_iff_not] at *; omega) | (simp; done)))) ?_
      | with_reducible refine draw_by (r := true) (by with_unfolding_all exact rfl) (by with_unfolding_all exact rfl) (by assumption) (by with_unfolding_all exact rfl) ?_
      | with_reducible refine draw_by (r := false) (by with_unfolding_all exact rfl) (by with_unfolding_all exact rfl) (by assumption) (by with_unfolding_all exact rfl) ?_
      | with_reducible refine ops_by (r := true) (by with_unfolding_all exact rfl) (by assumption) (by with_unfolding_all exact rfl) ?_
      | with_reducible refine ops_by (r := false) (by with_unfolding_all exact rfl) (by assumption) (by with_unfolding_all exact rfl) ?_
      | (with_reducible refine c_split (by with_unfolding_all exact rfl) ?_ ?_ <;> (intro h; try (exfalso; simp at h; done)))
      | (with_reducible refine draw_split (by with_unfolding_all exact rfl) (by with_unfolding_all exact rfl) (by with_unfolding_all exact rfl) (by with_unfolding_all exact rfl) ?_ ?_ <;> (intro h; try (exfalso; simp at h; done)))
      | (with_reducible refine ops_split (by with_unfolding_all exact rfl) (by with_unfolding_all exact rfl) (by with_unfolding_all exact rfl) ?_ ?_ <;> (intro h; try (exfalso; simp at h; done)))))
  all_goals (with_reducible refine gcS_go [some 0, some 1] (by with_unfolding_all exact rfl) (by with_unfolding_all exact trivial) ?_)
  all_goals exact ⟨rfl, rfl⟩
theorem root_sound : Sound Try.prog 11 fun args H k => ∃ (s : St) (l lm : Nat), args = [.ptr l 0 0] ∧ H[l]? = some (elO s lm) ∧ H[lm]? = some (mpO s) ∧ l ≠ lm ∧ k (.int .i64 s.root) H := by
  refine sound_small hNG hmix ?_
  rintro args H k ⟨s, l, lm, rfl, h1, h2, hne, hk⟩
  refine ⟨60, _, _, [l, lm], _, root_ev s, rfl, stands_of (by simp [hne]) ⟨h1, h2, trivial⟩, labH2 trivial trivial, rfl, by simp [elO, mpO, Ob.live], ?_⟩
  rintro v H' ⟨rfl, rfl⟩
  refine ⟨fun j o hj h => (by rw [List.getElem?_eq_none (by simpa using hj)] at h; cases h), ?_⟩
  rw [show merge (rho [l, lm] H.length) [l, lm] [elO s 1, mpO s] H = (H.set l (elO s lm)).set lm (mpO s) ++ [] from rfl, List.append_nil, set_same h1, set_same h2]; exact hk

def bootS (s : St) (b : Int) : St := { me := s.me, to := s.to, ig := s.ig, boot := b, seq := 0, root := -1, beats := 0, quiet := 0, f := fun _ => none }
theorem boot_ev (s : St) (b : Int) : evF Try.prog 60 9 [.ptr 0 0 0, .int .u16 b] [elO s 1, mpO s] (gcS 2 fun v H => v = .tup [] ∧ H = [elO (bootS s b) 2, .dead, mpO (bootS s b)]) := by
  ((with_reducible refine evF_go (by with_unfolding_all exact rfl) (by with_unfolding_all exact rfl) ?_); repeat' (first
      | with_reducible refine c_seq ?_
      | with_reducible refine p_then_n ?_
      | with_reducible refine p_nrm ?_
      | with_reducible refine c_region (by with_unfolding_all exact rfl) ?_
      | with_reducible refine ops_run (by with_unfolding_all exact rfl) (by with_unfolding_all exact rfl) (by with_unfolding_all first | exact trivial | (repeat' (first | exact rfl | refine And.intro ?_ ?_ | omega | (simp only [decide_eq_true_eq, decide_eq_false_iff_not] at *; omega) | (simp; done)))) ?_
      | with_reducible refine ops_nil ?_
      | with_reducible refine ops_step (by with_unfolding_all exact rfl) (call_text (by with_unfolding_all exact rfl) (by with_unfolding_all exact rfl) (by with_unfolding_all exact rfl) ?_)
      | with_reducible refine one_step (by with_unfolding_all exact rfl) (call_text (by with_unfolding_all exact rfl) (by with_unfolding_all exact rfl) (by with_unfolding_all exact rfl) ?_)
      | with_reducible refine aft_go (by with_unfolding_all exact rfl) ?_
      | (with_reducible refine ops_step (by with_unfolding_all exact rfl) (look_go (by with_unfolding_all exact rfl) (fun g h => ?_) (fun h => ?_)) <;> (try (exfalso; simp at h; done)))
      | (with_reducible refine one_step (by with_unfolding_all exact rfl) (look_go (by with_unfolding_all exact rfl) (fun g h => ?_) (fun h => ?_)) <;> (try (exfalso; simp at h; done)))
      | with_reducible refine c_draw (by with_unfolding_all exact rfl) (by with_unfolding_all exact rfl) (by with_unfolding_all exact rfl) ?_
      | with_reducible refine draw_run (by with_unfolding_all exact rfl) (by with_unfolding_all exact rfl) (by with_unfolding_all first | exact trivial | (repeat' (first | exact rfl | refine And.intro ?_ ?_ | omega | (simp only [decide_eq_true_eq, decide_eq_false_iff_not] at *; omega) | (simp; done)))) ?_
      | with_reducible refine draw_done (by with_unfolding_all exact rfl) ?_
      | with_reducible refine draw_many (by with_unfolding_all exact rfl) (by with_unfolding_all exact rfl) ?_
      | with_reducible refine allD_one ?_
      | with_reducible refine one_step (by with_unfolding_all exact rfl) (stp_eff (by with_unfolding_all exact rfl) (by with_unfolding_all exact rfl) (by with_unfolding_all first | exact trivial | (repeat' (first | exact rfl | refine And.intro ?_ ?_ | omega | (simp only [decide_eq_true_eq, decide_eq_false_iff_not] at *; omega) | (simp; done)))) ?_)
      | with_reducible refine aftD_go (by with_unfolding_all exact rfl) (by with_unfolding_all exact rfl) (by with_unfolding_all first | exact trivial | (repeat' (first | exact rfl | refine And.intro ?_ ?_ | omega | (simp only [decide_eq_true_eq, decide_eq_false_iff_not] at *; omega) | (simp; done)))) ?_
      | with_reducible refine allD_more ?_ ?_
      | with_reducible refine c_t (by with_unfolding_all exact rfl) ?_
      | with_reducible refine c_f (by with_unfolding_all exact rfl) ?_
      | with_reducible refine c_ret ?_
      | with_reducible refine c_exit ?_
      | with_reducible refine c_skip ?_
      | with_reducible refine c_block ?_
      | with_reducible refine p_then_r ?_
      | with_reducible refine p_then_e ?_
      | with_reducible refine p_blk_n ?_
      | with_reducible refine p_blk_r ?_
      | with_reducible refine p_blk_hit (by with_unfolding_all exact rfl) ?_
      | with_reducible refine p_blk_miss (by with_unfolding_all exact rfl) ?_
      | with_reducible refine p_ret (by with_unfolding_all exact rfl) (by with_unfolding_all first | exact trivial | (repeat' (first | exact rfl | refine And.intro ?_ ?_ | omega | (simp only [decide_eq_true_eq, decide_eq_false_iff_not] at *; omega) | (simp; done)))) ?_
      | with_reducible refine p_ret_n (by with_unfolding_all exact rfl) (by with_unfolding_all first | exact trivial | (repeat' (first | exact rfl | refine And.intro ?_ ?_ | omega | (simp only [decide_eq_true_eq, decide_eq_false_iff_not] at *; omega) | (simp; done)))) ?_
      | with_reducible refine ops_lit (by with_unfolding_all exact rfl) (by with_unfolding_all exact rfl) (by with_unfolding_all exact rfl) (by with_unfolding_all exact rfl) (by with_unfolding_all first | exact trivial | (repeat' (first | exact rfl | refine And.intro ?_ ?_ | omega | (simp only [decide_eq_true_eq, decide_eq_false_iff_not] at *; omega) | (simp; done)))) ?_
      | with_reducible refine c_byt (by with_unfolding_all exact rfl) (by assumption) ?_
      | with_reducible refine c_byf (by with_unfolding_all exact rfl) (by assumption) ?_
      | with_reducible refine draw_lit (by with_unfolding_all exact rfl) (by with_unfolding_all exact rfl) (by with_unfolding_all exact rfl) (by with_unfolding_all exact rfl) (by with_unfolding_all exact rfl) (by with_unfolding_all first | exact trivial | (repeat' (first | exact rfl | refine And.intro ?_ ?_ | omega | (simp only [decide_eq_true_eq, decide_eq_false_iff_not] at *; omega) | (simp; done)))) ?_
      | with_reducible refine draw_by (r := true) (by with_unfolding_all exact rfl) (by with_unfolding_all exact rfl) (by assumption) (by with_unfolding_all exact rfl) ?_
      | with_reducible refine draw_by (r := false) (by with_unfolding_all exact rfl) (by with_unfolding_all exact rfl) (by assumption) (by with_unfolding_all exact rfl) ?_
      | with_reducible refine ops_by (r := true) (by with_unfolding_all exact rfl) (by assumption) (by with_unfolding_all exact rfl) ?_
      | with_reducible refine ops_by (r := false) (by with_unfolding_all exact rfl) (by assumption) (by with_unfolding_all exact rfl) ?_
      | (with_reducible refine c_split (by with_unfolding_all exact rfl) ?_ ?_ <;> (intro h; try (exfalso; simp at h; done)))
      | (with_reducible refine draw_split (by with_unfolding_all exact rfl) (by with_unfolding_all exact rfl) (by with_unfolding_all exact rfl) (by with_unfolding_all exact rfl) ?_ ?_ <;> (intro h; try (exfalso; simp at h; done)))
      | (with_reducible refine ops_split (by with_unfolding_all exact rfl) (by with_unfolding_all exact rfl) (by with_unfolding_all exact rfl) ?_ ?_ <;> (intro h; try (exfalso; simp at h; done)))))
  all_goals (with_reducible refine gcS_go [some 0, none, some 2] (by with_unfolding_all exact rfl) (by with_unfolding_all exact trivial) ?_)
  all_goals exact ⟨rfl, rfl⟩
theorem boot_sound : Sound Try.prog 9 fun args H k => ∃ (s : St) (l lm : Nat) (b : Int), args = [.ptr l 0 0, .int .u16 b] ∧ H[l]? = some (elO s lm) ∧ H[lm]? = some (mpO s) ∧ l ≠ lm ∧ k (.tup []) ((H.set l (elO (bootS s b) H.length)).set lm .dead ++ [mpO (bootS s b)]) := by
  refine sound_small hNG hmix ?_
  rintro args H k ⟨s, l, lm, b, rfl, h1, h2, hne, hk⟩
  refine ⟨60, _, _, [l, lm], _, boot_ev s b, rfl, stands_of (by simp [hne]) ⟨h1, h2, trivial⟩, labH2 trivial trivial, rfl, by simp [elO, mpO, Ob.live], ?_⟩
  rintro v H' ⟨rfl, rfl⟩
  refine ⟨fun j o hj h hl => ?_, hk⟩
  match j, hj, h with
  | 2, _, h => simp at h; subst h; rfl
  | j + 3, _, h => simp at h

def mxI (a b : Int) : Int := if b > a then b else a
def beatS (s : St) : St := bif mineB s then { s with quiet := mxI (IntKind.i64.wrap (s.quiet - 1)) 0 } else bif decide (IntKind.i64.wrap (s.beats + 1) < s.to) then { s with beats := IntKind.i64.wrap (s.beats + 1) } else { s with root := s.me, beats := 0, quiet := s.ig }
def beatV (s : St) : Bool := !mineB s && !decide (IntKind.i64.wrap (s.beats + 1) < s.to)
def issueS (s : St) : St := bif mineB s then { s with seq := IntKind.u16.wrap (s.seq + 1) } else s
def issueX (s : St) : Int := bif mineB s then s.boot else 0
def issueY (s : St) : Int := bif mineB s then IntKind.u16.wrap (s.seq + 1) else 0
def getM (s : St) (n : Int) (j : Nat) : Int := match s.f n with
  | some g => g j
  | none => 0
def hasM (s : St) (n : Int) : Bool := match s.f n with
  | some _ => true
  | none => false
def markX (s : St) : Int := bif decide (s.root < 0) then 0 else bif mineB s then s.boot else getM s s.root 0
def markY (s : St) : Int := bif decide (s.root < 0) then 0 else bif mineB s then s.seq else getM s s.root 1
def markB (s : St) : Bool := !decide (s.root < 0) && (!mineB s || decide (s.seq > 0))
def deafB (s : St) (root b q : Int) : Bool := !mayB s root || (hasM s root && !newerB b q (getM s root 0) (getM s root 1))
def movedB (s : St) (root b : Int) : Bool := s.root != root || getM s root 0 != b
def hearV (s : St) (root b q : Int) : Int := bif deafB s root b q then 0 else bif movedB s root b then 2 else 1
def hearS (s : St) (root b q : Int) : St := bif deafB s root b q then s else { s with root := root, beats := 0, quiet := 0, f := updZ s.f root fun j => [b, q].getD j 0 }

theorem beat_ev (s : St) : evF Try.prog 60 7 [.ptr 0 0 0] [elO s 1, mpO s] (gcS 2 fun v H => v = .bool (beatV s) ∧ H = [elO (beatS s) 1, mpO (beatS s)]) := by
  ((with_reducible refine evF_go (by with_unfolding_all exact rfl) (by with_unfolding_all exact rfl) ?_); repeat' (first
      | with_reducible refine c_seq ?_
      | with_reducible refine p_then_n ?_
      | with_reducible refine p_nrm ?_
      | with_reducible refine c_region (by with_unfolding_all exact rfl) ?_
      | with_reducible refine ops_run (by with_unfolding_all exact rfl) (by with_unfolding_all exact rfl) (by with_unfolding_all first | exact trivial | (repeat' (first | exact rfl | refine And.intro ?_ ?_ | omega | (simp only [decide_eq_true_eq, decide_eq_false_iff_not] at *; omega) | (simp; done)))) ?_
      | with_reducible refine ops_nil ?_
      | (with_reducible refine ops_step (by with_unfolding_all exact rfl) (call_law mine_sound (by with_unfolding_all exact rfl) (by with_unfolding_all exact rfl) ?_); first | refine ⟨_, _, _, rfl, rfl, rfl, (by first | decide | assumption | omega), ?_⟩ | refine ⟨⟨_, _, _, _, _, _, _, _, _⟩, _, _, rfl, rfl, rfl, (by first | decide | assumption | omega), ?_⟩)
      | (with_reducible refine one_step (by with_unfolding_all exact rfl) (call_law mine_sound (by with_unfolding_all exact rfl) (by with_unfolding_all exact rfl) ?_); first | refine ⟨_, _, _, rfl, rfl, rfl, (by first | decide | assumption | omega), ?_⟩ | refine ⟨⟨_, _, _, _, _, _, _, _, _⟩, _, _, rfl, rfl, rfl, (by first | decide | assumption | omega), ?_⟩)
      | with_reducible refine ops_step (by with_unfolding_all exact rfl) (call_text (by with_unfolding_all exact rfl) (by with_unfolding_all exact rfl) (by with_unfolding_all exact rfl) ?_)
      | with_reducible refine one_step (by with_unfolding_all exact rfl) (call_text (by with_unfolding_all exact rfl) (by with_unfolding_all exact rfl) (by with_unfolding_all exact rfl) ?_)
      | with_reducible refine aft_go (by with_unfolding_all exact rfl) ?_
      | (with_reducible refine ops_step (by with_unfolding_all exact rfl) (look_go (by with_unfolding_all exact rfl) (fun g h => ?_) (fun h => ?_)) <;> (try (exfalso; simp at h; done)))
      | (with_reducible refine one_step (by with_unfolding_all exact rfl) (look_go (by with_unfolding_all exact rfl) (fun g h => ?_) (fun h => ?_)) <;> (try (exfalso; simp at h; done)))
      | with_reducible refine c_draw (by with_unfolding_all exact rfl) (by with_unfolding_all exact rfl) (by with_unfolding_all exact rfl) ?_
      | with_reducible refine draw_run (by with_unfolding_all exact rfl) (by with_unfolding_all exact rfl) (by with_unfolding_all first | exact trivial | (repeat' (first | exact rfl | refine And.intro ?_ ?_ | omega | (simp only [decide_eq_true_eq, decide_eq_false_iff_not] at *; omega) | (simp; done)))) ?_
      | with_reducible refine draw_done (by with_unfolding_all exact rfl) ?_
      | with_reducible refine draw_many (by with_unfolding_all exact rfl) (by with_unfolding_all exact rfl) ?_
      | with_reducible refine allD_one ?_
      | with_reducible refine one_step (by with_unfolding_all exact rfl) (stp_eff (by with_unfolding_all exact rfl) (by with_unfolding_all exact rfl) (by with_unfolding_all first | exact trivial | (repeat' (first | exact rfl | refine And.intro ?_ ?_ | omega | (simp only [decide_eq_true_eq, decide_eq_false_iff_not] at *; omega) | (simp; done)))) ?_)
      | with_reducible refine aftD_go (by with_unfolding_all exact rfl) (by with_unfolding_all exact rfl) (by with_unfolding_all first | exact trivial | (repeat' (first | exact rfl | refine And.intro ?_ ?_ | omega | (simp only [decide_eq_true_eq, decide_eq_false_iff_not] at *; omega) | (simp; done)))) ?_
      | with_reducible refine allD_more ?_ ?_
      | with_reducible refine c_t (by with_unfolding_all exact rfl) ?_
      | with_reducible refine c_f (by with_unfolding_all exact rfl) ?_
      | with_reducible refine c_ret ?_
      | with_reducible refine c_exit ?_
      | with_reducible refine c_skip ?_
      | with_reducible refine c_block ?_
      | with_reducible refine p_then_r ?_
      | with_reducible refine p_then_e ?_
      | with_reducible refine p_blk_n ?_
      | with_reducible refine p_blk_r ?_
      | with_reducible refine p_blk_hit (by with_unfolding_all exact rfl) ?_
      | with_reducible refine p_blk_miss (by with_unfolding_all exact rfl) ?_
      | with_reducible refine p_ret (by with_unfolding_all exact rfl) (by with_unfolding_all first | exact trivial | (repeat' (first | exact rfl | refine And.intro ?_ ?_ | omega | (simp only [decide_eq_true_eq, decide_eq_false_iff_not] at *; omega) | (simp; done)))) ?_
      | with_reducible refine p_ret_n (by with_unfolding_all exact rfl) (by with_unfolding_all first | exact trivial | (repeat' (first | exact rfl | refine And.intro ?_ ?_ | omega | (simp only [decide_eq_true_eq, decide_eq_false_iff_not] at *; omega) | (simp; done)))) ?_
      | with_reducible refine ops_lit (by with_unfolding_all exact rfl) (by with_unfolding_all exact rfl) (by with_unfolding_all exact rfl) (by with_unfolding_all exact rfl) (by with_unfolding_all first | exact trivial | (repeat' (first | exact rfl | refine And.intro ?_ ?_ | omega | (simp only [decide_eq_true_eq, decide_eq_false_iff_not] at *; omega) | (simp; done)))) ?_
      | with_reducible refine c_byt (by with_unfolding_all exact rfl) (by assumption) ?_
      | with_reducible refine c_byf (by with_unfolding_all exact rfl) (by assumption) ?_
      | with_reducible refine draw_lit (by with_unfolding_all exact rfl) (by with_unfolding_all exact rfl) (by with_unfolding_all exact rfl) (by with_unfolding_all exact rfl) (by with_unfolding_all exact rfl) (by with_unfolding_all first | exact trivial | (repeat' (first | exact rfl | refine And.intro ?_ ?_ | omega | (simp only [decide_eq_true_eq, decide_eq_false_iff_not] at *; omega) | (simp; done)))) ?_
      | with_reducible refine draw_by (r := true) (by with_unfolding_all exact rfl) (by with_unfolding_all exact rfl) (by assumption) (by with_unfolding_all exact rfl) ?_
      | with_reducible refine draw_by (r := false) (by with_unfolding_all exact rfl) (by with_unfolding_all exact rfl) (by assumption) (by with_unfolding_all exact rfl) ?_
      | with_reducible refine ops_by (r := true) (by with_unfolding_all exact rfl) (by assumption) (by with_unfolding_all exact rfl) ?_
      | with_reducible refine ops_by (r := false) (by with_unfolding_all exact rfl) (by assumption) (by with_unfolding_all exact rfl) ?_
      | (with_reducible refine c_split (by with_unfolding_all exact rfl) ?_ ?_ <;> (intro h; try (exfalso; simp at h; done)))
      | (with_reducible refine draw_split (by with_unfolding_all exact rfl) (by with_unfolding_all exact rfl) (by with_unfolding_all exact rfl) (by with_unfolding_all exact rfl) ?_ ?_ <;> (intro h; try (exfalso; simp at h; done)))
      | (with_reducible refine ops_split (by with_unfolding_all exact rfl) (by with_unfolding_all exact rfl) (by with_unfolding_all exact rfl) ?_ ?_ <;> (intro h; try (exfalso; simp at h; done)))))
  all_goals (with_reducible refine gcS_go [some 0, some 1] (by with_unfolding_all exact rfl) (by with_unfolding_all exact trivial) ?_)
  all_goals ((try simp only [cond_true, cond_false, Nat.zero_add, Bool.not_eq_true', Bool.not_eq_false'] at *); refine ⟨?_, ?_⟩ <;> first | rfl | (simp only [beatV, beatS, *, cond_true, cond_false, Bool.not_true, Bool.not_false, Bool.or_true, Bool.true_or, Bool.false_or, Bool.or_false, Bool.and_true, Bool.true_and, Bool.and_false, Bool.false_and]; done) | (simp only [beatV, beatS, *, cond_true, cond_false, Bool.not_true, Bool.not_false, Bool.or_true, Bool.true_or, Bool.false_or, Bool.or_false, Bool.and_true, Bool.true_and, Bool.and_false, Bool.false_and]; rfl))
theorem beat_sound : Sound Try.prog 7 fun args H k => ∃ (s : St) (l lm : Nat), args = [.ptr l 0 0] ∧ H[l]? = some (elO s lm) ∧ H[lm]? = some (mpO s) ∧ l ≠ lm ∧ k (.bool (beatV s)) ((H.set l (elO (beatS s) lm)).set lm (mpO (beatS s))) := by
  refine sound_small hNG hmix ?_
  rintro args H k ⟨s, l, lm, rfl, h1, h2, hne, hk⟩
  refine ⟨60, _, _, [l, lm], _, beat_ev s, rfl, stands_of (by simp [hne]) ⟨h1, h2, trivial⟩, labH2 trivial trivial, rfl, by simp [elO, mpO, Ob.live], ?_⟩
  rintro v H' ⟨rfl, rfl⟩
  refine ⟨fun j o hj h => (by rw [List.getElem?_eq_none (by simpa using hj)] at h; cases h), ?_⟩
  rw [show merge (rho [l, lm] H.length) [l, lm] [elO (beatS s) 1, mpO (beatS s)] H = (H.set l (elO (beatS s) lm)).set lm (mpO (beatS s)) ++ [] from rfl, List.append_nil]; exact hk

theorem issue_ev (s : St) : evF Try.prog 60 8 [.ptr 0 0 0] [elO s 1, mpO s] (gcS 2 fun v H => v = .tup [.agg [.int .u16 (issueX s), .int .u16 (issueY s)], .bool (mineB s)] ∧ H = [elO (issueS s) 1, mpO (issueS s)]) := by
  ((with_reducible refine evF_go (by with_unfolding_all exact rfl) (by with_unfolding_all exact rfl) ?_); repeat' (first
      | with_reducible refine c_seq ?_
      | with_reducible refine p_then_n ?_
      | with_reducible refine p_nrm ?_
      | with_reducible refine c_region (by with_unfolding_all exact rfl) ?_
      | with_reducible refine ops_run (by with_unfolding_all exact rfl) (by with_unfolding_all exact rfl) (by with_unfolding_all first | exact trivial | (repeat' (first | exact rfl | refine And.intro ?_ ?_ | omega | (simp only [decide_eq_true_eq, decide_eq_false_iff_not] at *; omega) | (simp; done)))) ?_
      | with_reducible refine ops_nil ?_
      | (with_reducible refine ops_step (by with_unfolding_all exact rfl) (call_law mine_sound (by with_unfolding_all exact rfl) (by with_unfolding_all exact rfl) ?_); first | refine ⟨_, _, _, rfl, rfl, rfl, (by first | decide | assumption | omega), ?_⟩ | refine ⟨⟨_, _, _, _, _, _, _, _, _⟩, _, _, rfl, rfl, rfl, (by first | decide | assumption | omega), ?_⟩)
      | (with_reducible refine one_step (by with_unfolding_all exact rfl) (call_law mine_sound (by with_unfolding_all exact rfl) (by with_unfolding_all exact rfl) ?_); first | refine ⟨_, _, _, rfl, rfl, rfl, (by first | decide | assumption | omega), ?_⟩ | refine ⟨⟨_, _, _, _, _, _, _, _, _⟩, _, _, rfl, rfl, rfl, (by first | decide | assumption | omega), ?_⟩)
      | (with_reducible refine ops_step (by with_unfolding_all exact rfl) (call_law next_sound (by with_unfolding_all exact rfl) (by with_unfolding_all exact rfl) ?_); refine ⟨_, rfl, ?_⟩)
      | (with_reducible refine one_step (by with_unfolding_all exact rfl) (call_law next_sound (by with_unfolding_all exact rfl) (by with_unfolding_all exact rfl) ?_); refine ⟨_, rfl, ?_⟩)
      | with_reducible refine ops_step (by with_unfolding_all exact rfl) (call_text (by with_unfolding_all exact rfl) (by with_unfolding_all exact rfl) (by with_unfolding_all exact rfl) ?_)
      | with_reducible refine one_step (by with_unfolding_all exact rfl) (call_text (by with_unfolding_all exact rfl) (by with_unfolding_all exact rfl) (by with_unfolding_all exact rfl) ?_)
      | with_reducible refine aft_go (by with_unfolding_all exact rfl) ?_
      | (with_reducible refine ops_step (by with_unfolding_all exact rfl) (look_go (by with_unfolding_all exact rfl) (fun g h => ?_) (fun h => ?_)) <;> (try (exfalso; simp at h; done)))
      | (with_reducible refine one_step (by with_unfolding_all exact rfl) (look_go (by with_unfolding_all exact rfl) (fun g h => ?_) (fun h => ?_)) <;> (try (exfalso; simp at h; done)))
      | with_reducible refine c_draw (by with_unfolding_all exact rfl) (by with_unfolding_all exact rfl) (by with_unfolding_all exact rfl) ?_
      | with_reducible refine draw_run (by with_unfolding_all exact rfl) (by with_unfolding_all exact rfl) (by with_unfolding_all first | exact trivial | (repeat' (first | exact rfl | refine And.intro ?_ ?_ | omega | (simp only [decide_eq_true_eq, decide_eq_false_iff_not] at *; omega) | (simp; done)))) ?_
      | with_reducible refine draw_done (by with_unfolding_all exact rfl) ?_
      | with_reducible refine draw_many (by with_unfolding_all exact rfl) (by with_unfolding_all exact rfl) ?_
      | with_reducible refine allD_one ?_
      | with_reducible refine one_step (by with_unfolding_all exact rfl) (stp_eff (by with_unfolding_all exact rfl) (by with_unfolding_all exact rfl) (by with_unfolding_all first | exact trivial | (repeat' (first | exact rfl | refine And.intro ?_ ?_ | omega | (simp only [decide_eq_true_eq, decide_eq_false_iff_not] at *; omega) | (simp; done)))) ?_)
      | with_reducible refine aftD_go (by with_unfolding_all exact rfl) (by with_unfolding_all exact rfl) (by with_unfolding_all first | exact trivial | (repeat' (first | exact rfl | refine And.intro ?_ ?_ | omega | (simp only [decide_eq_true_eq, decide_eq_false_iff_not] at *; omega) | (simp; done)))) ?_
      | with_reducible refine allD_more ?_ ?_
      | with_reducible refine c_t (by with_unfolding_all exact rfl) ?_
      | with_reducible refine c_f (by with_unfolding_all exact rfl) ?_
      | with_reducible refine c_ret ?_
      | with_reducible refine c_exit ?_
      | with_reducible refine c_skip ?_
      | with_reducible refine c_block ?_
      | with_reducible refine p_then_r ?_
      | with_reducible refine p_then_e ?_
      | with_reducible refine p_blk_n ?_
      | with_reducible refine p_blk_r ?_
      | with_reducible refine p_blk_hit (by with_unfolding_all exact rfl) ?_
      | with_reducible refine p_blk_miss (by with_unfolding_all exact rfl) ?_
      | with_reducible refine p_ret (by with_unfolding_all exact rfl) (by with_unfolding_all first | exact trivial | (repeat' (first | exact rfl | refine And.intro ?_ ?_ | omega | (simp only [decide_eq_true_eq, decide_eq_false_iff_not] at *; omega) | (simp; done)))) ?_
      | with_reducible refine p_ret_n (by with_unfolding_all exact rfl) (by with_unfolding_all first | exact trivial | (repeat' (first | exact rfl | refine And.intro ?_ ?_ | omega | (simp only [decide_eq_true_eq, decide_eq_false_iff_not] at *; omega) | (simp; done)))) ?_
      | with_reducible refine ops_lit (by with_unfolding_all exact rfl) (by with_unfolding_all exact rfl) (by with_unfolding_all exact rfl) (by with_unfolding_all exact rfl) (by with_unfolding_all first | exact trivial | (repeat' (first | exact rfl | refine And.intro ?_ ?_ | omega | (simp only [decide_eq_true_eq, decide_eq_false_iff_not] at *; omega) | (simp; done)))) ?_
      | with_reducible refine c_byt (by with_unfolding_all exact rfl) (by assumption) ?_
      | with_reducible refine c_byf (by with_unfolding_all exact rfl) (by assumption) ?_
      | with_reducible refine draw_lit (by with_unfolding_all exact rfl) (by with_unfolding_all exact rfl) (by with_unfolding_all exact rfl) (by with_unfolding_all exact rfl) (by with_unfolding_all exact rfl) (by with_unfolding_all first | exact trivial | (repeat' (first | exact rfl | refine And.intro ?_ ?_ | omega | (simp only [decide_eq_true_eq, decide_eq_false_iff_not] at *; omega) | (simp; done)))) ?_
      | with_reducible refine draw_by (r := true) (by with_unfolding_all exact rfl) (by with_unfolding_all exact rfl) (by assumption) (by with_unfolding_all exact rfl) ?_
      | with_reducible refine draw_by (r := false) (by with_unfolding_all exact rfl) (by with_unfolding_all exact rfl) (by assumption) (by with_unfolding_all exact rfl) ?_
      | with_reducible refine ops_by (r := true) (by with_unfolding_all exact rfl) (by assumption) (by with_unfolding_all exact rfl) ?_
      | with_reducible refine ops_by (r := false) (by with_unfolding_all exact rfl) (by assumption) (by with_unfolding_all exact rfl) ?_
      | (with_reducible refine c_split (by with_unfolding_all exact rfl) ?_ ?_ <;> (intro h; try (exfalso; simp at h; done)))
      | (with_reducible refine draw_split (by with_unfolding_all exact rfl) (by with_unfolding_all exact rfl) (by with_unfolding_all exact rfl) (by with_unfolding_all exact rfl) ?_ ?_ <;> (intro h; try (exfalso; simp at h; done)))
      | (with_reducible refine ops_split (by with_unfolding_all exact rfl) (by with_unfolding_all exact rfl) (by with_unfolding_all exact rfl) ?_ ?_ <;> (intro h; try (exfalso; simp at h; done)))))
  all_goals (with_reducible refine gcS_go [some 0, some 1] (by with_unfolding_all exact rfl) (by with_unfolding_all exact trivial) ?_)
  all_goals ((try simp only [cond_true, cond_false, Nat.zero_add, Bool.not_eq_true', Bool.not_eq_false'] at *); refine ⟨?_, ?_⟩ <;> first | rfl | (simp only [issueX, issueY, issueS, *, cond_true, cond_false, Bool.not_true, Bool.not_false, Bool.or_true, Bool.true_or, Bool.false_or, Bool.or_false, Bool.and_true, Bool.true_and, Bool.and_false, Bool.false_and]; done) | (simp only [issueX, issueY, issueS, *, cond_true, cond_false, Bool.not_true, Bool.not_false, Bool.or_true, Bool.true_or, Bool.false_or, Bool.or_false, Bool.and_true, Bool.true_and, Bool.and_false, Bool.false_and]; rfl))
theorem issue_sound : Sound Try.prog 8 fun args H k => ∃ (s : St) (l lm : Nat), args = [.ptr l 0 0] ∧ H[l]? = some (elO s lm) ∧ H[lm]? = some (mpO s) ∧ l ≠ lm ∧ k (.tup [.agg [.int .u16 (issueX s), .int .u16 (issueY s)], .bool (mineB s)]) ((H.set l (elO (issueS s) lm)).set lm (mpO (issueS s))) := by
  refine sound_small hNG hmix ?_
  rintro args H k ⟨s, l, lm, rfl, h1, h2, hne, hk⟩
  refine ⟨60, _, _, [l, lm], _, issue_ev s, rfl, stands_of (by simp [hne]) ⟨h1, h2, trivial⟩, labH2 trivial trivial, rfl, by simp [elO, mpO, Ob.live], ?_⟩
  rintro v H' ⟨rfl, rfl⟩
  refine ⟨fun j o hj h => (by rw [List.getElem?_eq_none (by simpa using hj)] at h; cases h), ?_⟩
  rw [show merge (rho [l, lm] H.length) [l, lm] [elO (issueS s) 1, mpO (issueS s)] H = (H.set l (elO (issueS s) lm)).set lm (mpO (issueS s)) ++ [] from rfl, List.append_nil]; exact hk

theorem mark_ev (s : St) : evF Try.prog 60 10 [.ptr 0 0 0] [elO s 1, mpO s] (gcS 2 fun v H => v = .tup [.agg [.int .u16 (markX s), .int .u16 (markY s)], .bool (markB s)] ∧ H = [elO (s) 1, mpO (s)]) := by
  ((with_reducible refine evF_go (by with_unfolding_all exact rfl) (by with_unfolding_all exact rfl) ?_); repeat' (first
      | with_reducible refine c_seq ?_
      | with_reducible refine p_then_n ?_
      | with_reducible refine p_nrm ?_
      | with_reducible refine c_region (by with_unfolding_all exact rfl) ?_
      | with_reducible refine ops_run (by with_unfolding_all exact rfl) (by with_unfolding_all exact rfl) (by with_unfolding_all first | exact trivial | (repeat' (first | exact rfl | refine And.intro ?_ ?_ | omega | (simp only [decide_eq_true_eq, decide_eq_false_iff_not] at *; omega) | (simp; done)))) ?_
      | with_reducible refine ops_nil ?_
      | (with_reducible refine ops_step (by with_unfolding_all exact rfl) (call_law mine_sound (by with_unfolding_all exact rfl) (by with_unfolding_all exact rfl) ?_); first | refine ⟨_, _, _, rfl, rfl, rfl, (by first | decide | assumption | omega), ?_⟩ | refine ⟨⟨_, _, _, _, _, _, _, _, _⟩, _, _, rfl, rfl, rfl, (by first | decide | assumption | omega), ?_⟩)
      | (with_reducible refine one_step (by with_unfolding_all exact rfl) (call_law mine_sound (by with_unfolding_all exact rfl) (by with_unfolding_all exact rfl) ?_); first | refine ⟨_, _, _, rfl, rfl, rfl, (by first | decide | assumption | omega), ?_⟩ | refine ⟨⟨_, _, _, _, _, _, _, _, _⟩, _, _, rfl, rfl, rfl, (by first | decide | assumption | omega), ?_⟩)
      | with_reducible refine ops_step (by with_unfolding_all exact rfl) (call_text (by with_unfolding_all exact rfl) (by with_unfolding_all exact rfl) (by with_unfolding_all exact rfl) ?_)
      | with_reducible refine one_step (by with_unfolding_all exact rfl) (call_text (by with_unfolding_all exact rfl) (by with_unfolding_all exact rfl) (by with_unfolding_all exact rfl) ?_)
      | with_reducible refine aft_go (by with_unfolding_all exact rfl) ?_
      | (with_reducible refine ops_step (by with_unfolding_all exact rfl) (look_go (by with_unfolding_all exact rfl) (fun g h => ?_) (fun h => ?_)) <;> (try (exfalso; simp at h; done)))
      | (with_reducible refine one_step (by with_unfolding_all exact rfl) (look_go (by with_unfolding_all exact rfl) (fun g h => ?_) (fun h => ?_)) <;> (try (exfalso; simp at h; done)))
      | with_reducible refine c_draw (by with_unfolding_all exact rfl) (by with_unfolding_all exact rfl) (by with_unfolding_all exact rfl) ?_
      | with_reducible refine draw_run (by with_unfolding_all exact rfl) (by with_unfolding_all exact rfl) (by with_unfolding_all first | exact trivial | (repeat' (first | exact rfl | refine And.intro ?_ ?_ | omega | (simp only [decide_eq_true_eq, decide_eq_false_iff_not] at *; omega) | (simp; done)))) ?_
      | with_reducible refine draw_done (by with_unfolding_all exact rfl) ?_
      | with_reducible refine draw_many (by with_unfolding_all exact rfl) (by with_unfolding_all exact rfl) ?_
      | with_reducible refine allD_one ?_
      | with_reducible refine one_step (by with_unfolding_all exact rfl) (stp_eff (by with_unfolding_all exact rfl) (by with_unfolding_all exact rfl) (by with_unfolding_all first | exact trivial | (repeat' (first | exact rfl | refine And.intro ?_ ?_ | omega | (simp only [decide_eq_true_eq, decide_eq_false_iff_not] at *; omega) | (simp; done)))) ?_)
      | with_reducible refine aftD_go (by with_unfolding_all exact rfl) (by with_unfolding_all exact rfl) (by with_unfolding_all first | exact trivial | (repeat' (first | exact rfl | refine And.intro ?_ ?_ | omega | (simp only [decide_eq_true_eq, decide_eq_false_iff_not] at *; omega) | (simp; done)))) ?_
      | with_reducible refine allD_more ?_ ?_
      | with_reducible refine c_t (by with_unfolding_all exact rfl) ?_
      | with_reducible refine c_f (by with_unfolding_all exact rfl) ?_
      | with_reducible refine c_ret ?_
      | with_reducible refine c_exit ?_
      | with_reducible refine c_skip ?_
      | with_reducible refine c_block ?_
      | with_reducible refine p_then_r ?_
      | with_reducible refine p_then_e ?_
      | with_reducible refine p_blk_n ?_
      | with_reducible refine p_blk_r ?_
      | with_reducible refine p_blk_hit (by with_unfolding_all exact rfl) ?_
      | with_reducible refine p_blk_miss (by with_unfolding_all exact rfl) ?_
      | with_reducible refine p_ret (by with_unfolding_all exact rfl) (by with_unfolding_all first | exact trivial | (repeat' (first | exact rfl | refine And.intro ?_ ?_ | omega | (simp only [decide_eq_true_eq, decide_eq_false_iff_not] at *; omega) | (simp; done)))) ?_
      | with_reducible refine p_ret_n (by with_unfolding_all exact rfl) (by with_unfolding_all first | exact trivial | (repeat' (first | exact rfl | refine And.intro ?_ ?_ | omega | (simp only [decide_eq_true_eq, decide_eq_false_iff_not] at *; omega) | (simp; done)))) ?_
      | with_reducible refine ops_lit (by with_unfolding_all exact rfl) (by with_unfolding_all exact rfl) (by with_unfolding_all exact rfl) (by with_unfolding_all exact rfl) (by with_unfolding_all first | exact trivial | (repeat' (first | exact rfl | refine And.intro ?_ ?_ | omega | (simp only [decide_eq_true_eq, decide_eq_false_iff_not] at *; omega) | (simp; done)))) ?_
      | with_reducible refine c_byt (by with_unfolding_all exact rfl) (by assumption) ?_
      | with_reducible refine c_byf (by with_unfolding_all exact rfl) (by assumption) ?_
      | with_reducible refine draw_lit (by with_unfolding_all exact rfl) (by with_unfolding_all exact rfl) (by with_unfolding_all exact rfl) (by with_unfolding_all exact rfl) (by with_unfolding_all exact rfl) (by with_unfolding_all first | exact trivial | (repeat' (first | exact rfl | refine And.intro ?_ ?_ | omega | (simp only [decide_eq_true_eq, decide_eq_false_iff_not] at *; omega) | (simp; done)))) ?_
      | with_reducible refine draw_by (r := true) (by with_unfolding_all exact rfl) (by with_unfolding_all exact rfl) (by assumption) (by with_unfolding_all exact rfl) ?_
      | with_reducible refine draw_by (r := false) (by with_unfolding_all exact rfl) (by with_unfolding_all exact rfl) (by assumption) (by with_unfolding_all exact rfl) ?_
      | with_reducible refine ops_by (r := true) (by with_unfolding_all exact rfl) (by assumption) (by with_unfolding_all exact rfl) ?_
      | with_reducible refine ops_by (r := false) (by with_unfolding_all exact rfl) (by assumption) (by with_unfolding_all exact rfl) ?_
      | (with_reducible refine c_split (by with_unfolding_all exact rfl) ?_ ?_ <;> (intro h; try (exfalso; simp at h; done)))
      | (with_reducible refine draw_split (by with_unfolding_all exact rfl) (by with_unfolding_all exact rfl) (by with_unfolding_all exact rfl) (by with_unfolding_all exact rfl) ?_ ?_ <;> (intro h; try (exfalso; simp at h; done)))
      | (with_reducible refine ops_split (by with_unfolding_all exact rfl) (by with_unfolding_all exact rfl) (by with_unfolding_all exact rfl) ?_ ?_ <;> (intro h; try (exfalso; simp at h; done)))))
  all_goals (with_reducible refine gcS_go [some 0, some 1] (by with_unfolding_all exact rfl) (by with_unfolding_all exact trivial) ?_)
  all_goals ((try simp only [cond_true, cond_false, Nat.zero_add, Bool.not_eq_true', Bool.not_eq_false'] at *); refine ⟨?_, ?_⟩ <;> first | rfl | (simp only [markX, markY, markB, getM, *, cond_true, cond_false, Bool.not_true, Bool.not_false, Bool.or_true, Bool.true_or, Bool.false_or, Bool.or_false, Bool.and_true, Bool.true_and, Bool.and_false, Bool.false_and]; done) | (simp only [markX, markY, markB, getM, *, cond_true, cond_false, Bool.not_true, Bool.not_false, Bool.or_true, Bool.true_or, Bool.false_or, Bool.or_false, Bool.and_true, Bool.true_and, Bool.and_false, Bool.false_and]; rfl))
theorem mark_sound : Sound Try.prog 10 fun args H k => ∃ (s : St) (l lm : Nat), args = [.ptr l 0 0] ∧ H[l]? = some (elO s lm) ∧ H[lm]? = some (mpO s) ∧ l ≠ lm ∧ k (.tup [.agg [.int .u16 (markX s), .int .u16 (markY s)], .bool (markB s)]) H := by
  refine sound_small hNG hmix ?_
  rintro args H k ⟨s, l, lm, rfl, h1, h2, hne, hk⟩
  refine ⟨60, _, _, [l, lm], _, mark_ev s, rfl, stands_of (by simp [hne]) ⟨h1, h2, trivial⟩, labH2 trivial trivial, rfl, by simp [elO, mpO, Ob.live], ?_⟩
  rintro v H' ⟨rfl, rfl⟩
  refine ⟨fun j o hj h => (by rw [List.getElem?_eq_none (by simpa using hj)] at h; cases h), ?_⟩
  rw [show merge (rho [l, lm] H.length) [l, lm] [elO s 1, mpO s] H = (H.set l (elO s lm)).set lm (mpO s) ++ [] from rfl, List.append_nil, set_same h1, set_same h2]; exact hk

theorem hear_ev (s : St) (root : Int) (b : Int) (q : Int) : evF Try.prog 60 6 [.ptr 0 0 0, .int .i64 root, .agg [.int .u16 b, .int .u16 q]] [elO s 1, mpO s] (gcS 2 fun v H => v = .int .i64 (hearV s root b q) ∧ H = [elO (hearS s root b q) 1, mpO (hearS s root b q)]) := by
  ((with_reducible refine evF_go (by with_unfolding_all exact rfl) (by with_unfolding_all exact rfl) ?_); repeat' (first
      | with_reducible refine c_seq ?_
      | with_reducible refine p_then_n ?_
      | with_reducible refine p_nrm ?_
      | with_reducible refine c_region (by with_unfolding_all exact rfl) ?_
      | with_reducible refine ops_run (by with_unfolding_all exact rfl) (by with_unfolding_all exact rfl) (by with_unfolding_all first | exact trivial | (repeat' (first | exact rfl | refine And.intro ?_ ?_ | omega | (simp only [decide_eq_true_eq, decide_eq_false_iff_not] at *; omega) | (simp; done)))) ?_
      | with_reducible refine ops_nil ?_
      | (with_reducible refine ops_step (by with_unfolding_all exact rfl) (call_law may_sound (by with_unfolding_all exact rfl) (by with_unfolding_all exact rfl) ?_); first | refine ⟨_, _, _, _, rfl, rfl, rfl, (by first | decide | assumption | omega), ?_⟩ | refine ⟨⟨_, _, _, _, _, _, _, _, _⟩, _, _, _, rfl, rfl, rfl, (by first | decide | assumption | omega), ?_⟩)
      | (with_reducible refine one_step (by with_unfolding_all exact rfl) (call_law may_sound (by with_unfolding_all exact rfl) (by with_unfolding_all exact rfl) ?_); first | refine ⟨_, _, _, _, rfl, rfl, rfl, (by first | decide | assumption | omega), ?_⟩ | refine ⟨⟨_, _, _, _, _, _, _, _, _⟩, _, _, _, rfl, rfl, rfl, (by first | decide | assumption | omega), ?_⟩)
      | (with_reducible refine ops_step (by with_unfolding_all exact rfl) (call_law newer_sound (by with_unfolding_all exact rfl) (by with_unfolding_all exact rfl) ?_); refine ⟨_, _, _, _, rfl, ?_⟩)
      | (with_reducible refine one_step (by with_unfolding_all exact rfl) (call_law newer_sound (by with_unfolding_all exact rfl) (by with_unfolding_all exact rfl) ?_); refine ⟨_, _, _, _, rfl, ?_⟩)
      | with_reducible refine ops_step (by with_unfolding_all exact rfl) (call_text (by with_unfolding_all exact rfl) (by with_unfolding_all exact rfl) (by with_unfolding_all exact rfl) ?_)
      | with_reducible refine one_step (by with_unfolding_all exact rfl) (call_text (by with_unfolding_all exact rfl) (by with_unfolding_all exact rfl) (by with_unfolding_all exact rfl) ?_)
      | with_reducible refine aft_go (by with_unfolding_all exact rfl) ?_
      | (with_reducible refine ops_step (by with_unfolding_all exact rfl) (look_go (by with_unfolding_all exact rfl) (fun g h => ?_) (fun h => ?_)) <;> (try (exfalso; simp at h; done)))
      | (with_reducible refine one_step (by with_unfolding_all exact rfl) (look_go (by with_unfolding_all exact rfl) (fun g h => ?_) (fun h => ?_)) <;> (try (exfalso; simp at h; done)))
      | with_reducible refine c_draw (by with_unfolding_all exact rfl) (by with_unfolding_all exact rfl) (by with_unfolding_all exact rfl) ?_
      | with_reducible refine draw_run (by with_unfolding_all exact rfl) (by with_unfolding_all exact rfl) (by with_unfolding_all first | exact trivial | (repeat' (first | exact rfl | refine And.intro ?_ ?_ | omega | (simp only [decide_eq_true_eq, decide_eq_false_iff_not] at *; omega) | (simp; done)))) ?_
      | with_reducible refine draw_done (by with_unfolding_all exact rfl) ?_
      | with_reducible refine draw_many (by with_unfolding_all exact rfl) (by with_unfolding_all exact rfl) ?_
      | with_reducible refine allD_one ?_
      | with_reducible refine one_step (by with_unfolding_all exact rfl) (stp_eff (by with_unfolding_all exact rfl) (by with_unfolding_all exact rfl) (by with_unfolding_all first | exact trivial | (repeat' (first | exact rfl | refine And.intro ?_ ?_ | omega | (simp only [decide_eq_true_eq, decide_eq_false_iff_not] at *; omega) | (simp; done)))) ?_)
      | with_reducible refine aftD_go (by with_unfolding_all exact rfl) (by with_unfolding_all exact rfl) (by with_unfolding_all first | exact trivial | (repeat' (first | exact rfl | refine And.intro ?_ ?_ | omega | (simp only [decide_eq_true_eq, decide_eq_false_iff_not] at *; omega) | (simp; done)))) ?_
      | with_reducible refine allD_more ?_ ?_
      | with_reducible refine c_t (by with_unfolding_all exact rfl) ?_
      | with_reducible refine c_f (by with_unfolding_all exact rfl) ?_
      | with_reducible refine c_ret ?_
      | with_reducible refine c_exit ?_
      | with_reducible refine c_skip ?_
      | with_reducible refine c_block ?_
      | with_reducible refine p_then_r ?_
      | with_reducible refine p_then_e ?_
      | with_reducible refine p_blk_n ?_
      | with_reducible refine p_blk_r ?_
      | with_reducible refine p_blk_hit (by with_unfolding_all exact rfl) ?_
      | with_reducible refine p_blk_miss (by with_unfolding_all exact rfl) ?_
      | with_reducible refine p_ret (by with_unfolding_all exact rfl) (by with_unfolding_all first | exact trivial | (repeat' (first | exact rfl | refine And.intro ?_ ?_ | omega | (simp only [decide_eq_true_eq, decide_eq_false_iff_not] at *; omega) | (simp; done)))) ?_
      | with_reducible refine p_ret_n (by with_unfolding_all exact rfl) (by with_unfolding_all first | exact trivial | (repeat' (first | exact rfl | refine And.intro ?_ ?_ | omega | (simp only [decide_eq_true_eq, decide_eq_false_iff_not] at *; omega) | (simp; done)))) ?_
      | with_reducible refine ops_lit (by with_unfolding_all exact rfl) (by with_unfolding_all exact rfl) (by with_unfolding_all exact rfl) (by with_unfolding_all exact rfl) (by with_unfolding_all first | exact trivial | (repeat' (first | exact rfl | refine And.intro ?_ ?_ | omega | (simp only [decide_eq_true_eq, decide_eq_false_iff_not] at *; omega) | (simp; done)))) ?_
      | with_reducible refine c_byt (by with_unfolding_all exact rfl) (by assumption) ?_
      | with_reducible refine c_byf (by with_unfolding_all exact rfl) (by assumption) ?_
      | with_reducible refine draw_lit (by with_unfolding_all exact rfl) (by with_unfolding_all exact rfl) (by with_unfolding_all exact rfl) (by with_unfolding_all exact rfl) (by with_unfolding_all exact rfl) (by with_unfolding_all first | exact trivial | (repeat' (first | exact rfl | refine And.intro ?_ ?_ | omega | (simp only [decide_eq_true_eq, decide_eq_false_iff_not] at *; omega) | (simp; done)))) ?_
      | with_reducible refine draw_by (r := true) (by with_unfolding_all exact rfl) (by with_unfolding_all exact rfl) (by assumption) (by with_unfolding_all exact rfl) ?_
      | with_reducible refine draw_by (r := false) (by with_unfolding_all exact rfl) (by with_unfolding_all exact rfl) (by assumption) (by with_unfolding_all exact rfl) ?_
      | with_reducible refine ops_by (r := true) (by with_unfolding_all exact rfl) (by assumption) (by with_unfolding_all exact rfl) ?_
      | with_reducible refine ops_by (r := false) (by with_unfolding_all exact rfl) (by assumption) (by with_unfolding_all exact rfl) ?_
      | (with_reducible refine c_split (by with_unfolding_all exact rfl) ?_ ?_ <;> (intro h; try (exfalso; simp at h; done)))
      | (with_reducible refine draw_split (by with_unfolding_all exact rfl) (by with_unfolding_all exact rfl) (by with_unfolding_all exact rfl) (by with_unfolding_all exact rfl) ?_ ?_ <;> (intro h; try (exfalso; simp at h; done)))
      | (with_reducible refine ops_split (by with_unfolding_all exact rfl) (by with_unfolding_all exact rfl) (by with_unfolding_all exact rfl) ?_ ?_ <;> (intro h; try (exfalso; simp at h; done)))))
  all_goals (with_reducible refine gcS_go [some 0, some 1] (by with_unfolding_all exact rfl) (by with_unfolding_all exact trivial) ?_)
  all_goals ((try simp only [cond_true, cond_false, Nat.zero_add, Bool.not_eq_true', Bool.not_eq_false'] at *); refine ⟨?_, ?_⟩ <;> first | rfl | (simp only [hearV, hearS, deafB, movedB, getM, hasM, *, cond_true, cond_false, Bool.not_true, Bool.not_false, Bool.or_true, Bool.true_or, Bool.false_or, Bool.or_false, Bool.and_true, Bool.true_and, Bool.and_false, Bool.false_and]; done) | (simp only [hearV, hearS, deafB, movedB, getM, hasM, *, cond_true, cond_false, Bool.not_true, Bool.not_false, Bool.or_true, Bool.true_or, Bool.false_or, Bool.or_false, Bool.and_true, Bool.true_and, Bool.and_false, Bool.false_and]; rfl))
theorem hear_sound : Sound Try.prog 6 fun args H k => ∃ (s : St) (l lm : Nat) (root : Int) (b : Int) (q : Int), args = [.ptr l 0 0, .int .i64 root, .agg [.int .u16 b, .int .u16 q]] ∧ H[l]? = some (elO s lm) ∧ H[lm]? = some (mpO s) ∧ l ≠ lm ∧ k (.int .i64 (hearV s root b q)) ((H.set l (elO (hearS s root b q) lm)).set lm (mpO (hearS s root b q))) := by
  refine sound_small hNG hmix ?_
  rintro args H k ⟨s, l, lm, root, b, q, rfl, h1, h2, hne, hk⟩
  refine ⟨60, _, _, [l, lm], _, hear_ev s root b q, rfl, stands_of (by simp [hne]) ⟨h1, h2, trivial⟩, labH2 trivial trivial, rfl, by simp [elO, mpO, Ob.live], ?_⟩
  rintro v H' ⟨rfl, rfl⟩
  refine ⟨fun j o hj h => (by rw [List.getElem?_eq_none (by simpa using hj)] at h; cases h), ?_⟩
  rw [show merge (rho [l, lm] H.length) [l, lm] [elO (hearS s root b q) 1, mpO (hearS s root b q)] H = (H.set l (elO (hearS s root b q) lm)).set lm (mpO (hearS s root b q)) ++ [] from rfl, List.append_nil]; exact hk
end Go.Proofs.Ytlejlgadonogeaa
