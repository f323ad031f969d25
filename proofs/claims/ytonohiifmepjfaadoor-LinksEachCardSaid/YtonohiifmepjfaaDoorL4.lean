/-
  LinksEach, reckoned: whatever the set and the number, true.
-/
import Derived.Test.YtonohiifmepjfaaDoorL3
import Derived.Test.YtonohiifmepjfaaDoorP2
namespace Go.Proofs.YtonohiifmepjfaaDoor
open Go Go.RowKit Ev
set_option maxHeartbeats 4000000
set_option maxRecDepth 100000

def ET (s : Nat) (most : Int) (p : Option Addr) (cap : Nat) (rw : Nat → Value) (n i : Int) : List V := [.int .u64 (s : Int), .int .i64 most, .raw (rw 2), .raw (rw 3), .raw (rw 4), .slc p cap 1 0 (bitsL s).length, .int .i64 n, .int .i64 i, .raw (rw 8), .raw (rw 9), .raw (rw 10), .raw (rw 11), .raw (rw 12), .raw (rw 13), .raw (rw 14), .raw (rw 15), .raw (rw 16), .raw (rw 17), .raw (rw 18), .raw (rw 19), .raw (rw 20), .raw (rw 21), .raw (rw 22), .raw (rw 23), .raw (rw 24), .raw (rw 25), .raw (rw 26), .raw (rw 27), .raw (rw 28), .raw (rw 29), .raw (rw 30), .raw (rw 31), .raw (rw 32), .raw (rw 33), .raw (rw 34), .raw (rw 35), .raw (rw 36), .raw (rw 37), .raw (rw 38), .raw (rw 39), .raw (rw 40), .raw (rw 41), .raw (rw 42), .raw (rw 43), .raw (rw 44), .raw (rw 45), .raw (rw 46), .raw (rw 47), .raw (rw 48), .raw (rw 49), .raw (rw 50)]
def EIn (s : Nat) (most : Int) (p : Option Addr) (cap : Nat) (f : Nat → Int) (m : Nat) (a : LAct) (H : List Ob) : Prop :=
  ∃ (rw : Nat → Value) (i : Nat), i + m = 64 ∧ a = ⟨ET s most p cap rw (cnt s i : Nat) i, []⟩ ∧ H = [tabO, .mem true 3 [] (bitsL s).length [.int .i64 f]]
theorem kI_eq (most : Int) (n : Nat) : bnd (some (if (n : Int) < if 0 > most then 0 else most then (n : Int) else if 0 > most then 0 else most)) n = ((min most.toNat n : Nat) : Int) := by
  simp only [bnd]
  split <;> split at * <;> omega
theorem each_ev (s : Nat) (most : Int) (hs : s < 2 ^ 64) : evF Tryd.prog 60 3 [.int .u64 (s : Int), .int .i64 most] [tabO] (fun v _ => v = .bool true) := by
  have h64 := bitsL_len s
  have min64 : min (Int.toNat 64) (bitsL s).length = (bitsL s).length := by show min 64 _ = _; omega
  ((with_reducible refine evF_go (by with_unfolding_all exact rfl) (by with_unfolding_all exact rfl) ?_); repeat' (first
      | with_reducible refine c_seq ?_
      | with_reducible refine p_then_n ?_
      | with_reducible refine p_nrm ?_
      | with_reducible refine c_region (by with_unfolding_all exact rfl) ?_
      | with_reducible refine ops_run (by with_unfolding_all exact rfl) (by with_unfolding_all exact rfl) (by with_unfolding_all first | exact trivial | (simp only [AllP, addC, Cond.and, List.cons_append, List.nil_append]; repeat' (first | assumption | exact rfl | refine And.intro ?_ ?_ | omega | (simp only [decide_eq_true_eq, decide_eq_false_iff_not] at *; omega) | (simp; done) | decide)); done) ?_
      | with_reducible refine ops_nil ?_
      | (with_reducible refine ops_step (by with_unfolding_all exact rfl) (call_law alive_sound (by with_unfolding_all exact rfl) (by with_unfolding_all exact rfl) ?_); refine ⟨0, rfl, rfl, ?_⟩)
      | (with_reducible refine one_step (by with_unfolding_all exact rfl) (call_law alive_sound (by with_unfolding_all exact rfl) (by with_unfolding_all exact rfl) ?_); refine ⟨0, rfl, rfl, ?_⟩)
      | (with_reducible refine ops_step (by with_unfolding_all exact rfl) (call_law in_sound (by with_unfolding_all exact rfl) (by with_unfolding_all exact rfl) ?_); refine ⟨_, _, rfl, ?_⟩)
      | (with_reducible refine one_step (by with_unfolding_all exact rfl) (call_law in_sound (by with_unfolding_all exact rfl) (by with_unfolding_all exact rfl) ?_); refine ⟨_, _, rfl, ?_⟩)
      | (with_reducible refine ops_step (by with_unfolding_all exact rfl) (call_law num_sound (by with_unfolding_all exact rfl) (by with_unfolding_all exact rfl) ?_); refine ⟨s, 0, _, rfl, hs, rfl, (fun p cap f hf => ?_)⟩ <;> (try rw [min64] at hf ⊢))
      | (with_reducible refine one_step (by with_unfolding_all exact rfl) (call_law num_sound (by with_unfolding_all exact rfl) (by with_unfolding_all exact rfl) ?_); refine ⟨s, 0, _, rfl, hs, rfl, (fun p cap f hf => ?_)⟩ <;> (try rw [min64] at hf ⊢))
      | (with_reducible refine ops_step (by with_unfolding_all exact rfl) (call_law same_sound (by with_unfolding_all exact rfl) (by with_unfolding_all exact rfl) ?_); refine ⟨_, _, _, _, _, _, _, _, _, _, _, _, _, _, _, _, _, _, rfl, rfl, rfl, (by decide), ?_, ?_, ?_, fun b hb => ?_⟩)
      | (with_reducible refine one_step (by with_unfolding_all exact rfl) (call_law same_sound (by with_unfolding_all exact rfl) (by with_unfolding_all exact rfl) ?_); refine ⟨_, _, _, _, _, _, _, _, _, _, _, _, _, _, _, _, _, _, rfl, rfl, rfl, (by decide), ?_, ?_, ?_, fun b hb => ?_⟩)
      | with_reducible refine aft_go (by with_unfolding_all exact rfl) ?_
      | (with_reducible refine ops_step (by with_unfolding_all exact rfl) (look_go (by with_unfolding_all exact rfl) (fun g h => ?_) (fun h => ?_)) <;> (try (exfalso; simp at h; done)))
      | (with_reducible refine one_step (by with_unfolding_all exact rfl) (look_go (by with_unfolding_all exact rfl) (fun g h => ?_) (fun h => ?_)) <;> (try (exfalso; simp at h; done)))
      | with_reducible refine c_draw (by with_unfolding_all exact rfl) (by with_unfolding_all exact rfl) (by with_unfolding_all exact rfl) ?_
      | with_reducible refine draw_run (by with_unfolding_all exact rfl) (by with_unfolding_all exact rfl) (by with_unfolding_all first | exact trivial | (simp only [AllP, addC, Cond.and, List.cons_append, List.nil_append]; repeat' (first | assumption | exact rfl | refine And.intro ?_ ?_ | omega | (simp only [decide_eq_true_eq, decide_eq_false_iff_not] at *; omega) | (simp; done) | decide)); done) ?_
      | with_reducible refine draw_done (by with_unfolding_all exact rfl) ?_
      | with_reducible refine draw_many (by with_unfolding_all exact rfl) (by with_unfolding_all exact rfl) ?_
      | with_reducible refine allD_one ?_
      | with_reducible refine one_step (by with_unfolding_all exact rfl) (stp_eff (by with_unfolding_all exact rfl) (by with_unfolding_all exact rfl) (by with_unfolding_all first | exact trivial | (simp only [AllP, addC, Cond.and, List.cons_append, List.nil_append]; repeat' (first | assumption | exact rfl | refine And.intro ?_ ?_ | omega | (simp only [decide_eq_true_eq, decide_eq_false_iff_not] at *; omega) | (simp; done) | decide)); done) ?_)
      | with_reducible refine aftD_go (by with_unfolding_all exact rfl) (by with_unfolding_all exact rfl) (by with_unfolding_all first | exact trivial | (simp only [AllP, addC, Cond.and, List.cons_append, List.nil_append]; repeat' (first | assumption | exact rfl | refine And.intro ?_ ?_ | omega | (simp only [decide_eq_true_eq, decide_eq_false_iff_not] at *; omega) | (simp; done) | decide)); done) ?_
      | with_reducible refine allD_more ?_ ?_
      | with_reducible refine ops_step (by with_unfolding_all exact rfl) (app_go (by with_unfolding_all exact rfl) (by with_unfolding_all first | exact trivial | (simp only [AllP, addC, Cond.and, List.cons_append, List.nil_append]; repeat' (first | assumption | exact rfl | refine And.intro ?_ ?_ | omega | (simp only [decide_eq_true_eq, decide_eq_false_iff_not] at *; omega) | (simp; done) | decide)); done) (fun p cap hcap => ?_))
      | with_reducible refine ops_step (by with_unfolding_all exact rfl) (mk_go (by with_unfolding_all exact rfl) (by with_unfolding_all first | exact trivial | (simp only [AllP, addC, Cond.and, List.cons_append, List.nil_append]; repeat' (first | assumption | exact rfl | refine And.intro ?_ ?_ | omega | (simp only [decide_eq_true_eq, decide_eq_false_iff_not] at *; omega) | (simp; done) | decide)); done) (fun p => ?_))
      | with_reducible refine ops_step (by with_unfolding_all exact rfl) (yld_go (by with_unfolding_all exact rfl) ?_)
      | with_reducible refine one_step (by with_unfolding_all exact rfl) (app_go (by with_unfolding_all exact rfl) (by with_unfolding_all first | exact trivial | (simp only [AllP, addC, Cond.and, List.cons_append, List.nil_append]; repeat' (first | assumption | exact rfl | refine And.intro ?_ ?_ | omega | (simp only [decide_eq_true_eq, decide_eq_false_iff_not] at *; omega) | (simp; done) | decide)); done) (fun p cap hcap => ?_))
      | with_reducible refine one_step (by with_unfolding_all exact rfl) (mk_go (by with_unfolding_all exact rfl) (by with_unfolding_all first | exact trivial | (simp only [AllP, addC, Cond.and, List.cons_append, List.nil_append]; repeat' (first | assumption | exact rfl | refine And.intro ?_ ?_ | omega | (simp only [decide_eq_true_eq, decide_eq_false_iff_not] at *; omega) | (simp; done) | decide)); done) (fun p => ?_))
      | with_reducible refine one_step (by with_unfolding_all exact rfl) (yld_go (by with_unfolding_all exact rfl) ?_)
      | with_reducible refine c_range (by with_unfolding_all exact rfl) (by with_unfolding_all exact rfl) (by with_unfolding_all exact rfl) (by with_unfolding_all exact rfl) (by with_unfolding_all exact rfl) ?_
      | with_reducible refine c_range_in (by with_unfolding_all exact rfl) (by with_unfolding_all exact rfl) (by with_unfolding_all exact rfl) (by with_unfolding_all exact rfl) (by with_unfolding_all exact rfl) (by with_unfolding_all exact rfl) ?_
      | with_reducible refine roundA_go (by with_unfolding_all exact rfl) (by with_unfolding_all exact rfl) ?_
      | with_reducible refine roundB_n (by with_unfolding_all exact rfl) ?_
      | with_reducible refine roundB_r (by with_unfolding_all exact rfl) ?_
      | with_reducible refine roundB_e (by with_unfolding_all exact rfl) ?_
      | with_reducible refine aftR_n (by with_unfolding_all exact rfl) (by with_unfolding_all exact rfl) ?_
      | with_reducible refine aftR_c (by with_unfolding_all exact rfl) (by with_unfolding_all exact rfl) ?_
      | with_reducible refine c_t (by with_unfolding_all exact rfl) ?_
      | with_reducible refine c_f (by with_unfolding_all exact rfl) ?_
      | with_reducible refine c_ret ?_
      | with_reducible refine c_exit ?_
      | with_reducible refine c_skip ?_
      | with_reducible refine c_block ?_
      | with_reducible refine p_then_r ?_
      | with_reducible refine p_then_e ?_
      | with_reducible refine p_blk_n ?_
      | with_reducible refine p_blk_r ?_
      | with_reducible refine p_blk_hit (by with_unfolding_all exact rfl) ?_
      | with_reducible refine p_blk_miss (by with_unfolding_all exact rfl) ?_
      | with_reducible refine p_ret (by with_unfolding_all exact rfl) (by with_unfolding_all first | exact trivial | (simp only [AllP, addC, Cond.and, List.cons_append, List.nil_append]; repeat' (first | assumption | exact rfl | refine And.intro ?_ ?_ | omega | (simp only [decide_eq_true_eq, decide_eq_false_iff_not] at *; omega) | (simp; done) | decide)); done) ?_
      | with_reducible refine p_ret_n (by with_unfolding_all exact rfl) (by with_unfolding_all first | exact trivial | (simp only [AllP, addC, Cond.and, List.cons_append, List.nil_append]; repeat' (first | assumption | exact rfl | refine And.intro ?_ ?_ | omega | (simp only [decide_eq_true_eq, decide_eq_false_iff_not] at *; omega) | (simp; done) | decide)); done) ?_
      | with_reducible refine ops_lit (by with_unfolding_all exact rfl) (by with_unfolding_all exact rfl) (by with_unfolding_all exact rfl) (by with_unfolding_all exact rfl) (by with_unfolding_all first | exact trivial | (simp only [AllP, addC, Cond.and, List.cons_append, List.nil_append]; repeat' (first | assumption | exact rfl | refine And.intro ?_ ?_ | omega | (simp only [decide_eq_true_eq, decide_eq_false_iff_not] at *; omega) | (simp; done) | decide)); done) ?_
      | with_reducible refine c_byt (by with_unfolding_all exact rfl) (by assumption) ?_
      | with_reducible refine c_byf (by with_unfolding_all exact rfl) (by assumption) ?_
      | with_reducible refine draw_lit (by with_unfolding_all exact rfl) (by with_unfolding_all exact rfl) (by with_unfolding_all exact rfl) (by with_unfolding_all exact rfl) (by with_unfolding_all exact rfl) (by with_unfolding_all first | exact trivial | (simp only [AllP, addC, Cond.and, List.cons_append, List.nil_append]; repeat' (first | assumption | exact rfl | refine And.intro ?_ ?_ | omega | (simp only [decide_eq_true_eq, decide_eq_false_iff_not] at *; omega) | (simp; done) | decide)); done) ?_
      | with_reducible refine draw_by (r := true) (by with_unfolding_all exact rfl) (by with_unfolding_all exact rfl) (by assumption) (by with_unfolding_all exact rfl) ?_
      | with_reducible refine draw_by (r := false) (by with_unfolding_all exact rfl) (by with_unfolding_all exact rfl) (by assumption) (by with_unfolding_all exact rfl) ?_
      | with_reducible refine ops_by (r := true) (by with_unfolding_all exact rfl) (by assumption) (by with_unfolding_all exact rfl) ?_
      | with_reducible refine ops_by (r := false) (by with_unfolding_all exact rfl) (by assumption) (by with_unfolding_all exact rfl) ?_
      | (with_reducible refine c_split (by with_unfolding_all exact rfl) ?_ ?_ <;> (intro h; try (exfalso; simp at h; done)))
      | (with_reducible refine draw_split (by with_unfolding_all exact rfl) (by with_unfolding_all exact rfl) (by with_unfolding_all exact rfl) (by with_unfolding_all exact rfl) ?_ ?_ <;> (intro h; try (exfalso; simp at h; done)))
      | (with_reducible refine ops_split (by with_unfolding_all exact rfl) (by with_unfolding_all exact rfl) (by with_unfolding_all exact rfl) ?_ ?_ <;> (intro h; try (exfalso; simp at h; done)))
      | with_reducible refine ops_run (by with_unfolding_all exact rfl) (by with_unfolding_all exact rfl) ?_ ?_
      | with_reducible refine ops_lit (by with_unfolding_all exact rfl) (by with_unfolding_all exact rfl) (by with_unfolding_all exact rfl) (by with_unfolding_all exact rfl) ?_ ?_
      | with_reducible refine draw_run (by with_unfolding_all exact rfl) (by with_unfolding_all exact rfl) ?_ ?_
      | with_reducible refine draw_lit (by with_unfolding_all exact rfl) (by with_unfolding_all exact rfl) (by with_unfolding_all exact rfl) (by with_unfolding_all exact rfl) (by with_unfolding_all exact rfl) ?_ ?_
      | with_reducible refine p_ret (by with_unfolding_all exact rfl) ?_ ?_))
  refine c_loop 2 (EIn s most p cap f) 64 (by with_unfolding_all exact rfl) ?_ ?_
  · refine gcM_go fun rw => ⟨[true, true, false, false, false, true, true, true], [some 0, some 1], _, _, _, rfl, trivial, ?_⟩
    exact ⟨rw, 0, rfl, rfl, rfl⟩
  · rintro m a H ⟨rw0, i, hm, rfl, rfl⟩
    rcases Nat.lt_or_ge i 64 with hi | hi
    · have hlt : decide ((i : Int) < 64) = true := by simp; omega
      have hI := inB_nat hs hi
      have hw1 : IntKind.i64.wrap ((i : Int) + 1) = ((i + 1 : Nat) : Int) := IntWalk.i64_in _ (by omega)
      cases hb : s.testBit i with
      | false =>
        rw [hb] at hI
        have hI2 : (!inB (s : Int) (i : Int)) = true := by rw [hI]; rfl
        (repeat' (first
            | with_reducible refine c_seq ?_
            | with_reducible refine p_then_n ?_
            | with_reducible refine p_nrm ?_
            | with_reducible refine c_region (by with_unfolding_all exact rfl) ?_
            | with_reducible refine ops_run (by with_unfolding_all exact rfl) (by with_unfolding_all exact rfl) (by with_unfolding_all first | exact trivial | (simp only [AllP, addC, Cond.and, List.cons_append, List.nil_append]; repeat' (first | assumption | exact rfl | refine And.intro ?_ ?_ | omega | (simp only [decide_eq_true_eq, decide_eq_false_iff_not] at *; omega) | (simp; done) | decide)); done) ?_
            | with_reducible refine ops_nil ?_
            | (with_reducible refine ops_step (by with_unfolding_all exact rfl) (call_law alive_sound (by with_unfolding_all exact rfl) (by with_unfolding_all exact rfl) ?_); refine ⟨0, rfl, rfl, ?_⟩)
            | (with_reducible refine one_step (by with_unfolding_all exact rfl) (call_law alive_sound (by with_unfolding_all exact rfl) (by with_unfolding_all exact rfl) ?_); refine ⟨0, rfl, rfl, ?_⟩)
            | (with_reducible refine ops_step (by with_unfolding_all exact rfl) (call_law in_sound (by with_unfolding_all exact rfl) (by with_unfolding_all exact rfl) ?_); refine ⟨_, _, rfl, ?_⟩)
            | (with_reducible refine one_step (by with_unfolding_all exact rfl) (call_law in_sound (by with_unfolding_all exact rfl) (by with_unfolding_all exact rfl) ?_); refine ⟨_, _, rfl, ?_⟩)
            | (with_reducible refine ops_step (by with_unfolding_all exact rfl) (call_law num_sound (by with_unfolding_all exact rfl) (by with_unfolding_all exact rfl) ?_); refine ⟨s, 0, _, rfl, hs, rfl, (fun p cap f hf => ?_)⟩ <;> (try rw [min64] at hf ⊢))
            | (with_reducible refine one_step (by with_unfolding_all exact rfl) (call_law num_sound (by with_unfolding_all exact rfl) (by with_unfolding_all exact rfl) ?_); refine ⟨s, 0, _, rfl, hs, rfl, (fun p cap f hf => ?_)⟩ <;> (try rw [min64] at hf ⊢))
            | (with_reducible refine ops_step (by with_unfolding_all exact rfl) (call_law same_sound (by with_unfolding_all exact rfl) (by with_unfolding_all exact rfl) ?_); refine ⟨_, _, _, _, _, _, _, _, _, _, _, _, _, _, _, _, _, _, rfl, rfl, rfl, (by decide), ?_, ?_, ?_, fun b hb => ?_⟩)
            | (with_reducible refine one_step (by with_unfolding_all exact rfl) (call_law same_sound (by with_unfolding_all exact rfl) (by with_unfolding_all exact rfl) ?_); refine ⟨_, _, _, _, _, _, _, _, _, _, _, _, _, _, _, _, _, _, rfl, rfl, rfl, (by decide), ?_, ?_, ?_, fun b hb => ?_⟩)
            | with_reducible refine aft_go (by with_unfolding_all exact rfl) ?_
            | (with_reducible refine ops_step (by with_unfolding_all exact rfl) (look_go (by with_unfolding_all exact rfl) (fun g h => ?_) (fun h => ?_)) <;> (try (exfalso; simp at h; done)))
            | (with_reducible refine one_step (by with_unfolding_all exact rfl) (look_go (by with_unfolding_all exact rfl) (fun g h => ?_) (fun h => ?_)) <;> (try (exfalso; simp at h; done)))
            | with_reducible refine c_draw (by with_unfolding_all exact rfl) (by with_unfolding_all exact rfl) (by with_unfolding_all exact rfl) ?_
            | with_reducible refine draw_run (by with_unfolding_all exact rfl) (by with_unfolding_all exact rfl) (by with_unfolding_all first | exact trivial | (simp only [AllP, addC, Cond.and, List.cons_append, List.nil_append]; repeat' (first | assumption | exact rfl | refine And.intro ?_ ?_ | omega | (simp only [decide_eq_true_eq, decide_eq_false_iff_not] at *; omega) | (simp; done) | decide)); done) ?_
            | with_reducible refine draw_done (by with_unfolding_all exact rfl) ?_
            | with_reducible refine draw_many (by with_unfolding_all exact rfl) (by with_unfolding_all exact rfl) ?_
            | with_reducible refine allD_one ?_
            | with_reducible refine one_step (by with_unfolding_all exact rfl) (stp_eff (by with_unfolding_all exact rfl) (by with_unfolding_all exact rfl) (by with_unfolding_all first | exact trivial | (simp only [AllP, addC, Cond.and, List.cons_append, List.nil_append]; repeat' (first | assumption | exact rfl | refine And.intro ?_ ?_ | omega | (simp only [decide_eq_true_eq, decide_eq_false_iff_not] at *; omega) | (simp; done) | decide)); done) ?_)
            | with_reducible refine aftD_go (by with_unfolding_all exact rfl) (by with_unfolding_all exact rfl) (by with_unfolding_all first | exact trivial | (simp only [AllP, addC, Cond.and, List.cons_append, List.nil_append]; repeat' (first | assumption | exact rfl | refine And.intro ?_ ?_ | omega | (simp only [decide_eq_true_eq, decide_eq_false_iff_not] at *; omega) | (simp; done) | decide)); done) ?_
            | with_reducible refine allD_more ?_ ?_
            | with_reducible refine ops_step (by with_unfolding_all exact rfl) (app_go (by with_unfolding_all exact rfl) (by with_unfolding_all first | exact trivial | (simp only [AllP, addC, Cond.and, List.cons_append, List.nil_append]; repeat' (first | assumption | exact rfl | refine And.intro ?_ ?_ | omega | (simp only [decide_eq_true_eq, decide_eq_false_iff_not] at *; omega) | (simp; done) | decide)); done) (fun p cap hcap => ?_))
            | with_reducible refine ops_step (by with_unfolding_all exact rfl) (mk_go (by with_unfolding_all exact rfl) (by with_unfolding_all first | exact trivial | (simp only [AllP, addC, Cond.and, List.cons_append, List.nil_append]; repeat' (first | assumption | exact rfl | refine And.intro ?_ ?_ | omega | (simp only [decide_eq_true_eq, decide_eq_false_iff_not] at *; omega) | (simp; done) | decide)); done) (fun p => ?_))
            | with_reducible refine ops_step (by with_unfolding_all exact rfl) (yld_go (by with_unfolding_all exact rfl) ?_)
            | with_reducible refine one_step (by with_unfolding_all exact rfl) (app_go (by with_unfolding_all exact rfl) (by with_unfolding_all first | exact trivial | (simp only [AllP, addC, Cond.and, List.cons_append, List.nil_append]; repeat' (first | assumption | exact rfl | refine And.intro ?_ ?_ | omega | (simp only [decide_eq_true_eq, decide_eq_false_iff_not] at *; omega) | (simp; done) | decide)); done) (fun p cap hcap => ?_))
            | with_reducible refine one_step (by with_unfolding_all exact rfl) (mk_go (by with_unfolding_all exact rfl) (by with_unfolding_all first | exact trivial | (simp only [AllP, addC, Cond.and, List.cons_append, List.nil_append]; repeat' (first | assumption | exact rfl | refine And.intro ?_ ?_ | omega | (simp only [decide_eq_true_eq, decide_eq_false_iff_not] at *; omega) | (simp; done) | decide)); done) (fun p => ?_))
            | with_reducible refine one_step (by with_unfolding_all exact rfl) (yld_go (by with_unfolding_all exact rfl) ?_)
            | with_reducible refine c_range (by with_unfolding_all exact rfl) (by with_unfolding_all exact rfl) (by with_unfolding_all exact rfl) (by with_unfolding_all exact rfl) (by with_unfolding_all exact rfl) ?_
            | with_reducible refine c_range_in (by with_unfolding_all exact rfl) (by with_unfolding_all exact rfl) (by with_unfolding_all exact rfl) (by with_unfolding_all exact rfl) (by with_unfolding_all exact rfl) (by with_unfolding_all exact rfl) ?_
            | with_reducible refine roundA_go (by with_unfolding_all exact rfl) (by with_unfolding_all exact rfl) ?_
            | with_reducible refine roundB_n (by with_unfolding_all exact rfl) ?_
            | with_reducible refine roundB_r (by with_unfolding_all exact rfl) ?_
            | with_reducible refine roundB_e (by with_unfolding_all exact rfl) ?_
            | with_reducible refine aftR_n (by with_unfolding_all exact rfl) (by with_unfolding_all exact rfl) ?_
            | with_reducible refine aftR_c (by with_unfolding_all exact rfl) (by with_unfolding_all exact rfl) ?_
            | with_reducible refine c_t (by with_unfolding_all exact rfl) ?_
            | with_reducible refine c_f (by with_unfolding_all exact rfl) ?_
            | with_reducible refine c_ret ?_
            | with_reducible refine c_exit ?_
            | with_reducible refine c_skip ?_
            | with_reducible refine c_block ?_
            | with_reducible refine p_then_r ?_
            | with_reducible refine p_then_e ?_
            | with_reducible refine p_blk_n ?_
            | with_reducible refine p_blk_r ?_
            | with_reducible refine p_blk_hit (by with_unfolding_all exact rfl) ?_
            | with_reducible refine p_blk_miss (by with_unfolding_all exact rfl) ?_
            | with_reducible refine p_ret (by with_unfolding_all exact rfl) (by with_unfolding_all first | exact trivial | (simp only [AllP, addC, Cond.and, List.cons_append, List.nil_append]; repeat' (first | assumption | exact rfl | refine And.intro ?_ ?_ | omega | (simp only [decide_eq_true_eq, decide_eq_false_iff_not] at *; omega) | (simp; done) | decide)); done) ?_
            | with_reducible refine p_ret_n (by with_unfolding_all exact rfl) (by with_unfolding_all first | exact trivial | (simp only [AllP, addC, Cond.and, List.cons_append, List.nil_append]; repeat' (first | assumption | exact rfl | refine And.intro ?_ ?_ | omega | (simp only [decide_eq_true_eq, decide_eq_false_iff_not] at *; omega) | (simp; done) | decide)); done) ?_
            | with_reducible refine ops_lit (by with_unfolding_all exact rfl) (by with_unfolding_all exact rfl) (by with_unfolding_all exact rfl) (by with_unfolding_all exact rfl) (by with_unfolding_all first | exact trivial | (simp only [AllP, addC, Cond.and, List.cons_append, List.nil_append]; repeat' (first | assumption | exact rfl | refine And.intro ?_ ?_ | omega | (simp only [decide_eq_true_eq, decide_eq_false_iff_not] at *; omega) | (simp; done) | decide)); done) ?_
            | with_reducible refine c_byt (by with_unfolding_all exact rfl) (by assumption) ?_
            | with_reducible refine c_byf (by with_unfolding_all exact rfl) (by assumption) ?_
            | with_reducible refine draw_lit (by with_unfolding_all exact rfl) (by with_unfolding_all exact rfl) (by with_unfolding_all exact rfl) (by with_unfolding_all exact rfl) (by with_unfolding_all exact rfl) (by with_unfolding_all first | exact trivial | (simp only [AllP, addC, Cond.and, List.cons_append, List.nil_append]; repeat' (first | assumption | exact rfl | refine And.intro ?_ ?_ | omega | (simp only [decide_eq_true_eq, decide_eq_false_iff_not] at *; omega) | (simp; done) | decide)); done) ?_
            | with_reducible refine draw_by (r := true) (by with_unfolding_all exact rfl) (by with_unfolding_all exact rfl) (by assumption) (by with_unfolding_all exact rfl) ?_
            | with_reducible refine draw_by (r := false) (by with_unfolding_all exact rfl) (by with_unfolding_all exact rfl) (by assumption) (by with_unfolding_all exact rfl) ?_
            | with_reducible refine ops_by (r := true) (by with_unfolding_all exact rfl) (by assumption) (by with_unfolding_all exact rfl) ?_
            | with_reducible refine ops_by (r := false) (by with_unfolding_all exact rfl) (by assumption) (by with_unfolding_all exact rfl) ?_
            | (with_reducible refine c_split (by with_unfolding_all exact rfl) ?_ ?_ <;> (intro h; try (exfalso; first | (simp at h; done) | (simp_all; done); done)))
            | (with_reducible refine draw_split (by with_unfolding_all exact rfl) (by with_unfolding_all exact rfl) (by with_unfolding_all exact rfl) (by with_unfolding_all exact rfl) ?_ ?_ <;> (intro h; try (exfalso; first | (simp at h; done) | (simp_all; done); done)))
            | (with_reducible refine ops_split (by with_unfolding_all exact rfl) (by with_unfolding_all exact rfl) (by with_unfolding_all exact rfl) ?_ ?_ <;> (intro h; try (exfalso; first | (simp at h; done) | (simp_all; done); done)))
            | with_reducible refine ops_run (by with_unfolding_all exact rfl) (by with_unfolding_all exact rfl) ?_ ?_
            | with_reducible refine ops_lit (by with_unfolding_all exact rfl) (by with_unfolding_all exact rfl) (by with_unfolding_all exact rfl) (by with_unfolding_all exact rfl) ?_ ?_
            | with_reducible refine draw_run (by with_unfolding_all exact rfl) (by with_unfolding_all exact rfl) ?_ ?_
            | with_reducible refine draw_lit (by with_unfolding_all exact rfl) (by with_unfolding_all exact rfl) (by with_unfolding_all exact rfl) (by with_unfolding_all exact rfl) (by with_unfolding_all exact rfl) ?_ ?_
            | with_reducible refine p_ret (by with_unfolding_all exact rfl) ?_ ?_))
        refine again_go fun rw => ⟨[true, true, false, false, false, true, true, true], [some 0, some 1], _, _, _, rfl, trivial, m - 1, by omega, rw, i + 1, by omega, ?_, rfl⟩
        rw [cnt_succ, hb, if_neg (by simp), Nat.add_zero, ← hw1]; rfl
      | true =>
        rw [hb] at hI
        have hI2 : (!inB (s : Int) (i : Int)) = false := by rw [hI]; rfl
        obtain ⟨b1, b2⟩ := bits_at hi hb
        have hge : decide (((cnt s i : Nat) : Int) ≥ ((bitsL s).length : Int)) = false := by simp; omega
        have hfi : (f (0 + ((cnt s i : Nat) : Int).toNat) != (i : Int)) = false := by
          rw [Nat.zero_add, Int.toNat_natCast, hf _ b1, b2]; simp
        have hw2 : IntKind.i64.wrap (((cnt s i : Nat) : Int) + 1) = ((cnt s i + 1 : Nat) : Int) := IntWalk.i64_in _ (by omega)
        (repeat' (first
            | with_reducible refine c_seq ?_
            | with_reducible refine p_then_n ?_
            | with_reducible refine p_nrm ?_
            | with_reducible refine c_region (by with_unfolding_all exact rfl) ?_
            | with_reducible refine ops_run (by with_unfolding_all exact rfl) (by with_unfolding_all exact rfl) (by with_unfolding_all first | exact trivial | (simp only [AllP, addC, Cond.and, List.cons_append, List.nil_append]; repeat' (first | assumption | exact rfl | refine And.intro ?_ ?_ | omega | (simp only [decide_eq_true_eq, decide_eq_false_iff_not] at *; omega) | (simp; done) | decide)); done) ?_
            | with_reducible refine ops_nil ?_
            | (with_reducible refine ops_step (by with_unfolding_all exact rfl) (call_law alive_sound (by with_unfolding_all exact rfl) (by with_unfolding_all exact rfl) ?_); refine ⟨0, rfl, rfl, ?_⟩)
            | (with_reducible refine one_step (by with_unfolding_all exact rfl) (call_law alive_sound (by with_unfolding_all exact rfl) (by with_unfolding_all exact rfl) ?_); refine ⟨0, rfl, rfl, ?_⟩)
            | (with_reducible refine ops_step (by with_unfolding_all exact rfl) (call_law in_sound (by with_unfolding_all exact rfl) (by with_unfolding_all exact rfl) ?_); refine ⟨_, _, rfl, ?_⟩)
            | (with_reducible refine one_step (by with_unfolding_all exact rfl) (call_law in_sound (by with_unfolding_all exact rfl) (by with_unfolding_all exact rfl) ?_); refine ⟨_, _, rfl, ?_⟩)
            | (with_reducible refine ops_step (by with_unfolding_all exact rfl) (call_law num_sound (by with_unfolding_all exact rfl) (by with_unfolding_all exact rfl) ?_); refine ⟨s, 0, _, rfl, hs, rfl, (fun p cap f hf => ?_)⟩ <;> (try rw [min64] at hf ⊢))
            | (with_reducible refine one_step (by with_unfolding_all exact rfl) (call_law num_sound (by with_unfolding_all exact rfl) (by with_unfolding_all exact rfl) ?_); refine ⟨s, 0, _, rfl, hs, rfl, (fun p cap f hf => ?_)⟩ <;> (try rw [min64] at hf ⊢))
            | (with_reducible refine ops_step (by with_unfolding_all exact rfl) (call_law same_sound (by with_unfolding_all exact rfl) (by with_unfolding_all exact rfl) ?_); refine ⟨_, _, _, _, _, _, _, _, _, _, _, _, _, _, _, _, _, _, rfl, rfl, rfl, (by decide), ?_, ?_, ?_, fun b hb => ?_⟩)
            | (with_reducible refine one_step (by with_unfolding_all exact rfl) (call_law same_sound (by with_unfolding_all exact rfl) (by with_unfolding_all exact rfl) ?_); refine ⟨_, _, _, _, _, _, _, _, _, _, _, _, _, _, _, _, _, _, rfl, rfl, rfl, (by decide), ?_, ?_, ?_, fun b hb => ?_⟩)
            | with_reducible refine aft_go (by with_unfolding_all exact rfl) ?_
            | (with_reducible refine ops_step (by with_unfolding_all exact rfl) (look_go (by with_unfolding_all exact rfl) (fun g h => ?_) (fun h => ?_)) <;> (try (exfalso; simp at h; done)))
            | (with_reducible refine one_step (by with_unfolding_all exact rfl) (look_go (by with_unfolding_all exact rfl) (fun g h => ?_) (fun h => ?_)) <;> (try (exfalso; simp at h; done)))
            | with_reducible refine c_draw (by with_unfolding_all exact rfl) (by with_unfolding_all exact rfl) (by with_unfolding_all exact rfl) ?_
            | with_reducible refine draw_run (by with_unfolding_all exact rfl) (by with_unfolding_all exact rfl) (by with_unfolding_all first | exact trivial | (simp only [AllP, addC, Cond.and, List.cons_append, List.nil_append]; repeat' (first | assumption | exact rfl | refine And.intro ?_ ?_ | omega | (simp only [decide_eq_true_eq, decide_eq_false_iff_not] at *; omega) | (simp; done) | decide)); done) ?_
            | with_reducible refine draw_done (by with_unfolding_all exact rfl) ?_
            | with_reducible refine draw_many (by with_unfolding_all exact rfl) (by with_unfolding_all exact rfl) ?_
            | with_reducible refine allD_one ?_
            | with_reducible refine one_step (by with_unfolding_all exact rfl) (stp_eff (by with_unfolding_all exact rfl) (by with_unfolding_all exact rfl) (by with_unfolding_all first | exact trivial | (simp only [AllP, addC, Cond.and, List.cons_append, List.nil_append]; repeat' (first | assumption | exact rfl | refine And.intro ?_ ?_ | omega | (simp only [decide_eq_true_eq, decide_eq_false_iff_not] at *; omega) | (simp; done) | decide)); done) ?_)
            | with_reducible refine aftD_go (by with_unfolding_all exact rfl) (by with_unfolding_all exact rfl) (by with_unfolding_all first | exact trivial | (simp only [AllP, addC, Cond.and, List.cons_append, List.nil_append]; repeat' (first | assumption | exact rfl | refine And.intro ?_ ?_ | omega | (simp only [decide_eq_true_eq, decide_eq_false_iff_not] at *; omega) | (simp; done) | decide)); done) ?_
            | with_reducible refine allD_more ?_ ?_
            | with_reducible refine ops_step (by with_unfolding_all exact rfl) (app_go (by with_unfolding_all exact rfl) (by with_unfolding_all first | exact trivial | (simp only [AllP, addC, Cond.and, List.cons_append, List.nil_append]; repeat' (first | assumption | exact rfl | refine And.intro ?_ ?_ | omega | (simp only [decide_eq_true_eq, decide_eq_false_iff_not] at *; omega) | (simp; done) | decide)); done) (fun p cap hcap => ?_))
            | with_reducible refine ops_step (by with_unfolding_all exact rfl) (mk_go (by with_unfolding_all exact rfl) (by with_unfolding_all first | exact trivial | (simp only [AllP, addC, Cond.and, List.cons_append, List.nil_append]; repeat' (first | assumption | exact rfl | refine And.intro ?_ ?_ | omega | (simp only [decide_eq_true_eq, decide_eq_false_iff_not] at *; omega) | (simp; done) | decide)); done) (fun p => ?_))
            | with_reducible refine ops_step (by with_unfolding_all exact rfl) (yld_go (by with_unfolding_all exact rfl) ?_)
            | with_reducible refine one_step (by with_unfolding_all exact rfl) (app_go (by with_unfolding_all exact rfl) (by with_unfolding_all first | exact trivial | (simp only [AllP, addC, Cond.and, List.cons_append, List.nil_append]; repeat' (first | assumption | exact rfl | refine And.intro ?_ ?_ | omega | (simp only [decide_eq_true_eq, decide_eq_false_iff_not] at *; omega) | (simp; done) | decide)); done) (fun p cap hcap => ?_))
            | with_reducible refine one_step (by with_unfolding_all exact rfl) (mk_go (by with_unfolding_all exact rfl) (by with_unfolding_all first | exact trivial | (simp only [AllP, addC, Cond.and, List.cons_append, List.nil_append]; repeat' (first | assumption | exact rfl | refine And.intro ?_ ?_ | omega | (simp only [decide_eq_true_eq, decide_eq_false_iff_not] at *; omega) | (simp; done) | decide)); done) (fun p => ?_))
            | with_reducible refine one_step (by with_unfolding_all exact rfl) (yld_go (by with_unfolding_all exact rfl) ?_)
            | with_reducible refine c_range (by with_unfolding_all exact rfl) (by with_unfolding_all exact rfl) (by with_unfolding_all exact rfl) (by with_unfolding_all exact rfl) (by with_unfolding_all exact rfl) ?_
            | with_reducible refine c_range_in (by with_unfolding_all exact rfl) (by with_unfolding_all exact rfl) (by with_unfolding_all exact rfl) (by with_unfolding_all exact rfl) (by with_unfolding_all exact rfl) (by with_unfolding_all exact rfl) ?_
            | with_reducible refine roundA_go (by with_unfolding_all exact rfl) (by with_unfolding_all exact rfl) ?_
            | with_reducible refine roundB_n (by with_unfolding_all exact rfl) ?_
            | with_reducible refine roundB_r (by with_unfolding_all exact rfl) ?_
            | with_reducible refine roundB_e (by with_unfolding_all exact rfl) ?_
            | with_reducible refine aftR_n (by with_unfolding_all exact rfl) (by with_unfolding_all exact rfl) ?_
            | with_reducible refine aftR_c (by with_unfolding_all exact rfl) (by with_unfolding_all exact rfl) ?_
            | with_reducible refine c_t (by with_unfolding_all exact rfl) ?_
            | with_reducible refine c_f (by with_unfolding_all exact rfl) ?_
            | with_reducible refine c_ret ?_
            | with_reducible refine c_exit ?_
            | with_reducible refine c_skip ?_
            | with_reducible refine c_block ?_
            | with_reducible refine p_then_r ?_
            | with_reducible refine p_then_e ?_
            | with_reducible refine p_blk_n ?_
            | with_reducible refine p_blk_r ?_
            | with_reducible refine p_blk_hit (by with_unfolding_all exact rfl) ?_
            | with_reducible refine p_blk_miss (by with_unfolding_all exact rfl) ?_
            | with_reducible refine p_ret (by with_unfolding_all exact rfl) (by with_unfolding_all first | exact trivial | (simp only [AllP, addC, Cond.and, List.cons_append, List.nil_append]; repeat' (first | assumption | exact rfl | refine And.intro ?_ ?_ | omega | (simp only [decide_eq_true_eq, decide_eq_false_iff_not] at *; omega) | (simp; done) | decide)); done) ?_
            | with_reducible refine p_ret_n (by with_unfolding_all exact rfl) (by with_unfolding_all first | exact trivial | (simp only [AllP, addC, Cond.and, List.cons_append, List.nil_append]; repeat' (first | assumption | exact rfl | refine And.intro ?_ ?_ | omega | (simp only [decide_eq_true_eq, decide_eq_false_iff_not] at *; omega) | (simp; done) | decide)); done) ?_
            | with_reducible refine ops_lit (by with_unfolding_all exact rfl) (by with_unfolding_all exact rfl) (by with_unfolding_all exact rfl) (by with_unfolding_all exact rfl) (by with_unfolding_all first | exact trivial | (simp only [AllP, addC, Cond.and, List.cons_append, List.nil_append]; repeat' (first | assumption | exact rfl | refine And.intro ?_ ?_ | omega | (simp only [decide_eq_true_eq, decide_eq_false_iff_not] at *; omega) | (simp; done) | decide)); done) ?_
            | with_reducible refine c_byt (by with_unfolding_all exact rfl) (by assumption) ?_
            | with_reducible refine c_byf (by with_unfolding_all exact rfl) (by assumption) ?_
            | with_reducible refine draw_lit (by with_unfolding_all exact rfl) (by with_unfolding_all exact rfl) (by with_unfolding_all exact rfl) (by with_unfolding_all exact rfl) (by with_unfolding_all exact rfl) (by with_unfolding_all first | exact trivial | (simp only [AllP, addC, Cond.and, List.cons_append, List.nil_append]; repeat' (first | assumption | exact rfl | refine And.intro ?_ ?_ | omega | (simp only [decide_eq_true_eq, decide_eq_false_iff_not] at *; omega) | (simp; done) | decide)); done) ?_
            | with_reducible refine draw_by (r := true) (by with_unfolding_all exact rfl) (by with_unfolding_all exact rfl) (by assumption) (by with_unfolding_all exact rfl) ?_
            | with_reducible refine draw_by (r := false) (by with_unfolding_all exact rfl) (by with_unfolding_all exact rfl) (by assumption) (by with_unfolding_all exact rfl) ?_
            | with_reducible refine ops_by (r := true) (by with_unfolding_all exact rfl) (by assumption) (by with_unfolding_all exact rfl) ?_
            | with_reducible refine ops_by (r := false) (by with_unfolding_all exact rfl) (by assumption) (by with_unfolding_all exact rfl) ?_
            | (with_reducible refine c_split (by with_unfolding_all exact rfl) ?_ ?_ <;> (intro h; try (exfalso; first | (simp at h; done) | (simp_all; done); done)))
            | (with_reducible refine draw_split (by with_unfolding_all exact rfl) (by with_unfolding_all exact rfl) (by with_unfolding_all exact rfl) (by with_unfolding_all exact rfl) ?_ ?_ <;> (intro h; try (exfalso; first | (simp at h; done) | (simp_all; done); done)))
            | (with_reducible refine ops_split (by with_unfolding_all exact rfl) (by with_unfolding_all exact rfl) (by with_unfolding_all exact rfl) ?_ ?_ <;> (intro h; try (exfalso; first | (simp at h; done) | (simp_all; done); done)))
            | with_reducible refine ops_run (by with_unfolding_all exact rfl) (by with_unfolding_all exact rfl) ?_ ?_
            | with_reducible refine ops_lit (by with_unfolding_all exact rfl) (by with_unfolding_all exact rfl) (by with_unfolding_all exact rfl) (by with_unfolding_all exact rfl) ?_ ?_
            | with_reducible refine draw_run (by with_unfolding_all exact rfl) (by with_unfolding_all exact rfl) ?_ ?_
            | with_reducible refine draw_lit (by with_unfolding_all exact rfl) (by with_unfolding_all exact rfl) (by with_unfolding_all exact rfl) (by with_unfolding_all exact rfl) (by with_unfolding_all exact rfl) ?_ ?_
            | with_reducible refine p_ret (by with_unfolding_all exact rfl) ?_ ?_))
        refine again_go fun rw => ⟨[true, true, false, false, false, true, true, true], [some 0, some 1], _, _, _, rfl, trivial, m - 1, by omega, rw, i + 1, by omega, ?_, rfl⟩
        rw [cnt_succ, hb, if_pos rfl, ← hw2, ← hw1]; rfl
    · obtain rfl : i = 64 := by omega
      have hlt : decide (((64 : Nat) : Int) < 64) = false := by decide
      have hne : (((cnt s 64 : Nat) : Int) != ((bitsL s).length : Int)) = false := by rw [cnt_all]; simp
      have hF := hf
      have hz : bnd none 0 = 0 := rfl
      have hk := kI_eq most (bitsL s).length
      (repeat' (first
          | with_reducible refine c_seq ?_
          | with_reducible refine p_then_n ?_
          | with_reducible refine p_nrm ?_
          | with_reducible refine c_region (by with_unfolding_all exact rfl) ?_
          | with_reducible refine ops_run (by with_unfolding_all exact rfl) (by with_unfolding_all exact rfl) (by with_unfolding_all first | exact trivial | (simp only [AllP, addC, Cond.and, List.cons_append, List.nil_append]; repeat' (first | assumption | exact rfl | refine And.intro ?_ ?_ | omega | (simp only [decide_eq_true_eq, decide_eq_false_iff_not] at *; omega) | (simp; done) | decide)); done) ?_
          | with_reducible refine ops_nil ?_
          | (with_reducible refine ops_step (by with_unfolding_all exact rfl) (call_law alive_sound (by with_unfolding_all exact rfl) (by with_unfolding_all exact rfl) ?_); refine ⟨0, rfl, rfl, ?_⟩)
          | (with_reducible refine one_step (by with_unfolding_all exact rfl) (call_law alive_sound (by with_unfolding_all exact rfl) (by with_unfolding_all exact rfl) ?_); refine ⟨0, rfl, rfl, ?_⟩)
          | (with_reducible refine ops_step (by with_unfolding_all exact rfl) (call_law in_sound (by with_unfolding_all exact rfl) (by with_unfolding_all exact rfl) ?_); refine ⟨_, _, rfl, ?_⟩)
          | (with_reducible refine one_step (by with_unfolding_all exact rfl) (call_law in_sound (by with_unfolding_all exact rfl) (by with_unfolding_all exact rfl) ?_); refine ⟨_, _, rfl, ?_⟩)
          | (with_reducible refine ops_step (by with_unfolding_all exact rfl) (call_law num_sound (by with_unfolding_all exact rfl) (by with_unfolding_all exact rfl) ?_); refine ⟨s, 0, _, rfl, hs, rfl, (fun p cap f hf => ?_)⟩ <;> (try rw [min64] at hf ⊢))
          | (with_reducible refine one_step (by with_unfolding_all exact rfl) (call_law num_sound (by with_unfolding_all exact rfl) (by with_unfolding_all exact rfl) ?_); refine ⟨s, 0, _, rfl, hs, rfl, (fun p cap f hf => ?_)⟩ <;> (try rw [min64] at hf ⊢))
          | (with_reducible refine ops_step (by with_unfolding_all exact rfl) (call_law same_sound (by with_unfolding_all exact rfl) (by with_unfolding_all exact rfl) ?_); refine ⟨_, _, _, _, _, _, _, _, _, _, _, _, _, _, _, _, _, _, rfl, rfl, rfl, (by decide), ?_, ?_, ?_, fun b hb => ?_⟩)
          | (with_reducible refine one_step (by with_unfolding_all exact rfl) (call_law same_sound (by with_unfolding_all exact rfl) (by with_unfolding_all exact rfl) ?_); refine ⟨_, _, _, _, _, _, _, _, _, _, _, _, _, _, _, _, _, _, rfl, rfl, rfl, (by decide), ?_, ?_, ?_, fun b hb => ?_⟩)
          | with_reducible refine aft_go (by with_unfolding_all exact rfl) ?_
          | (with_reducible refine ops_step (by with_unfolding_all exact rfl) (look_go (by with_unfolding_all exact rfl) (fun g h => ?_) (fun h => ?_)) <;> (try (exfalso; simp at h; done)))
          | (with_reducible refine one_step (by with_unfolding_all exact rfl) (look_go (by with_unfolding_all exact rfl) (fun g h => ?_) (fun h => ?_)) <;> (try (exfalso; simp at h; done)))
          | with_reducible refine c_draw (by with_unfolding_all exact rfl) (by with_unfolding_all exact rfl) (by with_unfolding_all exact rfl) ?_
          | with_reducible refine draw_run (by with_unfolding_all exact rfl) (by with_unfolding_all exact rfl) (by with_unfolding_all first | exact trivial | (simp only [AllP, addC, Cond.and, List.cons_append, List.nil_append]; repeat' (first | assumption | exact rfl | refine And.intro ?_ ?_ | omega | (simp only [decide_eq_true_eq, decide_eq_false_iff_not] at *; omega) | (simp; done) | decide)); done) ?_
          | with_reducible refine draw_done (by with_unfolding_all exact rfl) ?_
          | with_reducible refine draw_many (by with_unfolding_all exact rfl) (by with_unfolding_all exact rfl) ?_
          | with_reducible refine allD_one ?_
          | with_reducible refine one_step (by with_unfolding_all exact rfl) (stp_eff (by with_unfolding_all exact rfl) (by with_unfolding_all exact rfl) (by with_unfolding_all first | exact trivial | (simp only [AllP, addC, Cond.and, List.cons_append, List.nil_append]; repeat' (first | assumption | exact rfl | refine And.intro ?_ ?_ | omega | (simp only [decide_eq_true_eq, decide_eq_false_iff_not] at *; omega) | (simp; done) | decide)); done) ?_)
          | with_reducible refine aftD_go (by with_unfolding_all exact rfl) (by with_unfolding_all exact rfl) (by with_unfolding_all first | exact trivial | (simp only [AllP, addC, Cond.and, List.cons_append, List.nil_append]; repeat' (first | assumption | exact rfl | refine And.intro ?_ ?_ | omega | (simp only [decide_eq_true_eq, decide_eq_false_iff_not] at *; omega) | (simp; done) | decide)); done) ?_
          | with_reducible refine allD_more ?_ ?_
          | with_reducible refine ops_step (by with_unfolding_all exact rfl) (app_go (by with_unfolding_all exact rfl) (by with_unfolding_all first | exact trivial | (simp only [AllP, addC, Cond.and, List.cons_append, List.nil_append]; repeat' (first | assumption | exact rfl | refine And.intro ?_ ?_ | omega | (simp only [decide_eq_true_eq, decide_eq_false_iff_not] at *; omega) | (simp; done) | decide)); done) (fun p cap hcap => ?_))
          | with_reducible refine ops_step (by with_unfolding_all exact rfl) (mk_go (by with_unfolding_all exact rfl) (by with_unfolding_all first | exact trivial | (simp only [AllP, addC, Cond.and, List.cons_append, List.nil_append]; repeat' (first | assumption | exact rfl | refine And.intro ?_ ?_ | omega | (simp only [decide_eq_true_eq, decide_eq_false_iff_not] at *; omega) | (simp; done) | decide)); done) (fun p => ?_))
          | with_reducible refine ops_step (by with_unfolding_all exact rfl) (yld_go (by with_unfolding_all exact rfl) ?_)
          | with_reducible refine one_step (by with_unfolding_all exact rfl) (app_go (by with_unfolding_all exact rfl) (by with_unfolding_all first | exact trivial | (simp only [AllP, addC, Cond.and, List.cons_append, List.nil_append]; repeat' (first | assumption | exact rfl | refine And.intro ?_ ?_ | omega | (simp only [decide_eq_true_eq, decide_eq_false_iff_not] at *; omega) | (simp; done) | decide)); done) (fun p cap hcap => ?_))
          | with_reducible refine one_step (by with_unfolding_all exact rfl) (mk_go (by with_unfolding_all exact rfl) (by with_unfolding_all first | exact trivial | (simp only [AllP, addC, Cond.and, List.cons_append, List.nil_append]; repeat' (first | assumption | exact rfl | refine And.intro ?_ ?_ | omega | (simp only [decide_eq_true_eq, decide_eq_false_iff_not] at *; omega) | (simp; done) | decide)); done) (fun p => ?_))
          | with_reducible refine one_step (by with_unfolding_all exact rfl) (yld_go (by with_unfolding_all exact rfl) ?_)
          | with_reducible refine c_range (by with_unfolding_all exact rfl) (by with_unfolding_all exact rfl) (by with_unfolding_all exact rfl) (by with_unfolding_all exact rfl) (by with_unfolding_all exact rfl) ?_
          | with_reducible refine c_range_in (by with_unfolding_all exact rfl) (by with_unfolding_all exact rfl) (by with_unfolding_all exact rfl) (by with_unfolding_all exact rfl) (by with_unfolding_all exact rfl) (by with_unfolding_all exact rfl) ?_
          | with_reducible refine roundA_go (by with_unfolding_all exact rfl) (by with_unfolding_all exact rfl) ?_
          | with_reducible refine roundB_n (by with_unfolding_all exact rfl) ?_
          | with_reducible refine roundB_r (by with_unfolding_all exact rfl) ?_
          | with_reducible refine roundB_e (by with_unfolding_all exact rfl) ?_
          | with_reducible refine aftR_n (by with_unfolding_all exact rfl) (by with_unfolding_all exact rfl) ?_
          | with_reducible refine aftR_c (by with_unfolding_all exact rfl) (by with_unfolding_all exact rfl) ?_
          | with_reducible refine c_t (by with_unfolding_all exact rfl) ?_
          | with_reducible refine c_f (by with_unfolding_all exact rfl) ?_
          | with_reducible refine c_ret ?_
          | with_reducible refine c_exit ?_
          | with_reducible refine c_skip ?_
          | with_reducible refine c_block ?_
          | with_reducible refine p_then_r ?_
          | with_reducible refine p_then_e ?_
          | with_reducible refine p_blk_n ?_
          | with_reducible refine p_blk_r ?_
          | with_reducible refine p_blk_hit (by with_unfolding_all exact rfl) ?_
          | with_reducible refine p_blk_miss (by with_unfolding_all exact rfl) ?_
          | with_reducible refine p_ret (by with_unfolding_all exact rfl) (by with_unfolding_all first | exact trivial | (simp only [AllP, addC, Cond.and, List.cons_append, List.nil_append]; repeat' (first | assumption | exact rfl | refine And.intro ?_ ?_ | omega | (simp only [decide_eq_true_eq, decide_eq_false_iff_not] at *; omega) | (simp; done) | decide)); done) ?_
          | with_reducible refine p_ret_n (by with_unfolding_all exact rfl) (by with_unfolding_all first | exact trivial | (simp only [AllP, addC, Cond.and, List.cons_append, List.nil_append]; repeat' (first | assumption | exact rfl | refine And.intro ?_ ?_ | omega | (simp only [decide_eq_true_eq, decide_eq_false_iff_not] at *; omega) | (simp; done) | decide)); done) ?_
          | with_reducible refine ops_lit (by with_unfolding_all exact rfl) (by with_unfolding_all exact rfl) (by with_unfolding_all exact rfl) (by with_unfolding_all exact rfl) (by with_unfolding_all first | exact trivial | (simp only [AllP, addC, Cond.and, List.cons_append, List.nil_append]; repeat' (first | assumption | exact rfl | refine And.intro ?_ ?_ | omega | (simp only [decide_eq_true_eq, decide_eq_false_iff_not] at *; omega) | (simp; done) | decide)); done) ?_
          | with_reducible refine c_byt (by with_unfolding_all exact rfl) (by assumption) ?_
          | with_reducible refine c_byf (by with_unfolding_all exact rfl) (by assumption) ?_
          | with_reducible refine draw_lit (by with_unfolding_all exact rfl) (by with_unfolding_all exact rfl) (by with_unfolding_all exact rfl) (by with_unfolding_all exact rfl) (by with_unfolding_all exact rfl) (by with_unfolding_all first | exact trivial | (simp only [AllP, addC, Cond.and, List.cons_append, List.nil_append]; repeat' (first | assumption | exact rfl | refine And.intro ?_ ?_ | omega | (simp only [decide_eq_true_eq, decide_eq_false_iff_not] at *; omega) | (simp; done) | decide)); done) ?_
          | with_reducible refine draw_by (r := true) (by with_unfolding_all exact rfl) (by with_unfolding_all exact rfl) (by assumption) (by with_unfolding_all exact rfl) ?_
          | with_reducible refine draw_by (r := false) (by with_unfolding_all exact rfl) (by with_unfolding_all exact rfl) (by assumption) (by with_unfolding_all exact rfl) ?_
          | with_reducible refine ops_by (r := true) (by with_unfolding_all exact rfl) (by assumption) (by with_unfolding_all exact rfl) ?_
          | with_reducible refine ops_by (r := false) (by with_unfolding_all exact rfl) (by assumption) (by with_unfolding_all exact rfl) ?_
          | (with_reducible refine c_split (by with_unfolding_all exact rfl) ?_ ?_ <;> (intro h; try (exfalso; first | (simp at h; done) | (simp_all; done); done)))
          | (with_reducible refine draw_split (by with_unfolding_all exact rfl) (by with_unfolding_all exact rfl) (by with_unfolding_all exact rfl) (by with_unfolding_all exact rfl) ?_ ?_ <;> (intro h; try (exfalso; first | (simp at h; done) | (simp_all; done); done)))
          | (with_reducible refine ops_split (by with_unfolding_all exact rfl) (by with_unfolding_all exact rfl) (by with_unfolding_all exact rfl) ?_ ?_ <;> (intro h; try (exfalso; first | (simp at h; done) | (simp_all; done); done)))
          | with_reducible refine ops_run (by with_unfolding_all exact rfl) (by with_unfolding_all exact rfl) ?_ ?_
          | with_reducible refine ops_lit (by with_unfolding_all exact rfl) (by with_unfolding_all exact rfl) (by with_unfolding_all exact rfl) (by with_unfolding_all exact rfl) ?_ ?_
          | with_reducible refine draw_run (by with_unfolding_all exact rfl) (by with_unfolding_all exact rfl) ?_ ?_
          | with_reducible refine draw_lit (by with_unfolding_all exact rfl) (by with_unfolding_all exact rfl) (by with_unfolding_all exact rfl) (by with_unfolding_all exact rfl) (by with_unfolding_all exact rfl) ?_ ?_
          | with_reducible refine p_ret (by with_unfolding_all exact rfl) ?_ ?_))
      · omega
      · omega
      · omega
      · have : b = true := hb.2 ⟨by omega, fun i hi => by
          rw [show 0 + i = i by omega, show 0 + (bnd none 0).toNat + i = i by omega, hf i hi, hF i (by omega)]⟩
        rw [this]
end Go.Proofs.YtonohiifmepjfaaDoor
