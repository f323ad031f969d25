/-
  The contract of numbers: the bits that Each goes over, rising, up to so many.
-/
import Derived.Test.YtonohiifmepjfaaDoorL1
namespace Go.Proofs.YtonohiifmepjfaaDoor
open Go Go.RowKit Ev
set_option maxHeartbeats 4000000
set_option maxRecDepth 100000
/-- The first range over a function in a code. -/
def rfOf : Code → Option (Array Tmp × Code × Code)
  | .rangeFunc _ ps x bd => some (ps, x, bd)
  | .seq x y => match rfOf x with
    | some r => some r
    | none => rfOf y
  | .cond _ x y => match rfOf x with
    | some r => some r
    | none => rfOf y
  | .block _ c => rfOf c
  | .loop c => rfOf c
  | _ => none
def rfF (f : Func) : Array Tmp × Code × Code := match f.body with
  | some c => match rfOf c with
    | some r => r
    | none => (#[], .skip, .skip)
  | none => (#[], .skip, .skip)

def NTS (s : Nat) (most : Int) : List V := [.int .u64 (s : Int), .int .i64 most, .tup [], .ptr 1 0 0, .nils, .ptr 2 0 0, .tup [], .int .u64 (s : Int), .func (.func 27) [] [.ptr 3 0 0], .tup [], .tup [], .tup [], .tup [], .tup [], .tup [], .tup [], .tup [], .tup [], .tup []]
noncomputable def NH (s : Nat) (most : Int) (p : Option Addr) (cap r L : Nat) (f : Nat → Int) : List Ob :=
  [tabO, .mem true 3 [.int .i64 most] 0 [], .mem true 24 [.slc p cap 7 0 L] 0 [], .mem true 22 [.int .u64 (r : Int)] 0 [], .dfr, .loop .ready none (NTS s most) (rfF Tryd.f10).1 (rfF Tryd.f10).2.1 (rfF Tryd.f10).2.2 4, .dead, .mem true 3 [] L [.int .i64 f]]
def NIn (s : Nat) (most : Int) (m : Nat) (a : LAct) (H : List Ob) : Prop :=
  ∃ (rw : Nat → Value) (r L : Nat) (f : Nat → Int) (p : Option Addr) (cap : Nat) (don : List Nat), r = m ∧ r < 2 ^ 64 ∧ bitsL s = don ++ bitsL r ∧ L = don.length ∧ (∀ i, i < L → f i = ((don.getD i 0 : Nat) : Int)) ∧ (L : Int) ≤ max most 0 ∧
    a = ⟨[.yld 5, .ptr 3 0 0, .raw (rw 2), .raw (rw 3), .raw (rw 4), .raw (rw 5), .raw (rw 6), .raw (rw 7), .raw (rw 8), .raw (rw 9), .raw (rw 10), .raw (rw 11), .raw (rw 12), .raw (rw 13), .raw (rw 14), .raw (rw 15)], []⟩ ∧ H = NH s most p cap r L f
theorem bitsL_len (s : Nat) : (bitsL s).length ≤ 64 := by
  have := List.length_filter_le (fun i => s.testBit i) (List.range 64)
  simpa [bitsL] using this
theorem num_ev (s : Nat) (most : Int) (hs : s < 2 ^ 64) : evF Tryd.prog 60 10 [.int .u64 (s : Int), .int .i64 most] [tabO]
    (gcS 1 fun v H => ∃ (p : Option Addr) (cap : Nat) (f : Nat → Int), v = .slc p cap 1 0 (min most.toNat (bitsL s).length) ∧ H = [tabO, .mem true 3 [] (min most.toNat (bitsL s).length) [.int .i64 f]] ∧
      ∀ i, i < min most.toNat (bitsL s).length → f i = (((bitsL s).getD i 0 : Nat) : Int)) := by
  ((with_reducible refine evF_go (by with_unfolding_all exact rfl) (by with_unfolding_all exact rfl) ?_); repeat' (first
      | with_reducible refine c_seq ?_
      | with_reducible refine p_then_n ?_
      | with_reducible refine p_nrm ?_
      | with_reducible refine c_region (by with_unfolding_all exact rfl) ?_
      | with_reducible refine ops_run (by with_unfolding_all exact rfl) (by with_unfolding_all exact rfl) (by with_unfolding_all first | exact trivial | (simp only [AllP, addC, List.cons_append, List.nil_append]; repeat' (first | assumption | exact rfl | refine And.intro ?_ ?_ | omega | (simp only [decide_eq_true_eq, decide_eq_false_iff_not] at *; omega) | (simp; done))); done) ?_
      | with_reducible refine ops_nil ?_
      | with_reducible refine ops_step (by with_unfolding_all exact rfl) (call_text (by with_unfolding_all exact rfl) (by with_unfolding_all exact rfl) (by with_unfolding_all exact rfl) ?_)
      | with_reducible refine one_step (by with_unfolding_all exact rfl) (call_text (by with_unfolding_all exact rfl) (by with_unfolding_all exact rfl) (by with_unfolding_all exact rfl) ?_)
      | with_reducible refine aft_go (by with_unfolding_all exact rfl) ?_
      | (with_reducible refine ops_step (by with_unfolding_all exact rfl) (look_go (by with_unfolding_all exact rfl) (fun g h => ?_) (fun h => ?_)) <;> (try (exfalso; simp at h; done)))
      | (with_reducible refine one_step (by with_unfolding_all exact rfl) (look_go (by with_unfolding_all exact rfl) (fun g h => ?_) (fun h => ?_)) <;> (try (exfalso; simp at h; done)))
      | with_reducible refine c_draw (by with_unfolding_all exact rfl) (by with_unfolding_all exact rfl) (by with_unfolding_all exact rfl) ?_
      | with_reducible refine draw_run (by with_unfolding_all exact rfl) (by with_unfolding_all exact rfl) (by with_unfolding_all first | exact trivial | (simp only [AllP, addC, List.cons_append, List.nil_append]; repeat' (first | assumption | exact rfl | refine And.intro ?_ ?_ | omega | (simp only [decide_eq_true_eq, decide_eq_false_iff_not] at *; omega) | (simp; done))); done) ?_
      | with_reducible refine draw_done (by with_unfolding_all exact rfl) ?_
      | with_reducible refine draw_many (by with_unfolding_all exact rfl) (by with_unfolding_all exact rfl) ?_
      | with_reducible refine allD_one ?_
      | with_reducible refine one_step (by with_unfolding_all exact rfl) (stp_eff (by with_unfolding_all exact rfl) (by with_unfolding_all exact rfl) (by with_unfolding_all first | exact trivial | (simp only [AllP, addC, List.cons_append, List.nil_append]; repeat' (first | assumption | exact rfl | refine And.intro ?_ ?_ | omega | (simp only [decide_eq_true_eq, decide_eq_false_iff_not] at *; omega) | (simp; done))); done) ?_)
      | with_reducible refine aftD_go (by with_unfolding_all exact rfl) (by with_unfolding_all exact rfl) (by with_unfolding_all first | exact trivial | (simp only [AllP, addC, List.cons_append, List.nil_append]; repeat' (first | assumption | exact rfl | refine And.intro ?_ ?_ | omega | (simp only [decide_eq_true_eq, decide_eq_false_iff_not] at *; omega) | (simp; done))); done) ?_
      | with_reducible refine allD_more ?_ ?_
      | with_reducible refine ops_step (by with_unfolding_all exact rfl) (app_go (by with_unfolding_all exact rfl) (by with_unfolding_all first | exact trivial | (simp only [AllP, addC, List.cons_append, List.nil_append]; repeat' (first | assumption | exact rfl | refine And.intro ?_ ?_ | omega | (simp only [decide_eq_true_eq, decide_eq_false_iff_not] at *; omega) | (simp; done))); done) (fun p cap hcap => ?_))
      | with_reducible refine ops_step (by with_unfolding_all exact rfl) (mk_go (by with_unfolding_all exact rfl) (by with_unfolding_all first | exact trivial | (simp only [AllP, addC, List.cons_append, List.nil_append]; repeat' (first | assumption | exact rfl | refine And.intro ?_ ?_ | omega | (simp only [decide_eq_true_eq, decide_eq_false_iff_not] at *; omega) | (simp; done))); done) (fun p => ?_))
      | with_reducible refine ops_step (by with_unfolding_all exact rfl) (yld_go (by with_unfolding_all exact rfl) ?_)
      | with_reducible refine one_step (by with_unfolding_all exact rfl) (app_go (by with_unfolding_all exact rfl) (by with_unfolding_all first | exact trivial | (simp only [AllP, addC, List.cons_append, List.nil_append]; repeat' (first | assumption | exact rfl | refine And.intro ?_ ?_ | omega | (simp only [decide_eq_true_eq, decide_eq_false_iff_not] at *; omega) | (simp; done))); done) (fun p cap hcap => ?_))
      | with_reducible refine one_step (by with_unfolding_all exact rfl) (mk_go (by with_unfolding_all exact rfl) (by with_unfolding_all first | exact trivial | (simp only [AllP, addC, List.cons_append, List.nil_append]; repeat' (first | assumption | exact rfl | refine And.intro ?_ ?_ | omega | (simp only [decide_eq_true_eq, decide_eq_false_iff_not] at *; omega) | (simp; done))); done) (fun p => ?_))
      | with_reducible refine one_step (by with_unfolding_all exact rfl) (yld_go (by with_unfolding_all exact rfl) ?_)
      | with_reducible refine c_range (by with_unfolding_all exact rfl) (by with_unfolding_all exact rfl) (by with_unfolding_all exact rfl) (by with_unfolding_all exact rfl) (by with_unfolding_all exact rfl) ?_
      | with_reducible refine c_range_in (by with_unfolding_all exact rfl) (by with_unfolding_all exact rfl) (by with_unfolding_all exact rfl) (by with_unfolding_all exact rfl) (by with_unfolding_all exact rfl) (by with_unfolding_all exact rfl) ?_
      | with_reducible refine roundA_go (by with_unfolding_all exact rfl) (by with_unfolding_all exact rfl) ?_
      | with_reducible refine roundB_n (by with_unfolding_all exact rfl) ?_
      | with_reducible refine roundB_r (by with_unfolding_all exact rfl) ?_
      | with_reducible refine roundB_e (by with_unfolding_all exact rfl) ?_
      | with_reducible refine aftR_n (by with_unfolding_all exact rfl) (by with_unfolding_all exact rfl) ?_
      | with_reducible refine aftR_c (by with_unfolding_all exact rfl) (by with_unfolding_all exact rfl) ?_
      | with_reducible refine c_t (by with_unfolding_all exact rfl) ?_
      | with_reducible refine c_f (by with_unfolding_all exact rfl) ?_
      | with_reducible refine c_ret ?_
      | with_reducible refine c_exit ?_
      | with_reducible refine c_skip ?_
      | with_reducible refine c_block ?_
      | with_reducible refine p_then_r ?_
      | with_reducible refine p_then_e ?_
      | with_reducible refine p_blk_n ?_
      | with_reducible refine p_blk_r ?_
      | with_reducible refine p_blk_hit (by with_unfolding_all exact rfl) ?_
      | with_reducible refine p_blk_miss (by with_unfolding_all exact rfl) ?_
      | with_reducible refine p_ret (by with_unfolding_all exact rfl) (by with_unfolding_all first | exact trivial | (simp only [AllP, addC, List.cons_append, List.nil_append]; repeat' (first | assumption | exact rfl | refine And.intro ?_ ?_ | omega | (simp only [decide_eq_true_eq, decide_eq_false_iff_not] at *; omega) | (simp; done))); done) ?_
      | with_reducible refine p_ret_n (by with_unfolding_all exact rfl) (by with_unfolding_all first | exact trivial | (simp only [AllP, addC, List.cons_append, List.nil_append]; repeat' (first | assumption | exact rfl | refine And.intro ?_ ?_ | omega | (simp only [decide_eq_true_eq, decide_eq_false_iff_not] at *; omega) | (simp; done))); done) ?_
      | with_reducible refine ops_lit (by with_unfolding_all exact rfl) (by with_unfolding_all exact rfl) (by with_unfolding_all exact rfl) (by with_unfolding_all exact rfl) (by with_unfolding_all first | exact trivial | (simp only [AllP, addC, List.cons_append, List.nil_append]; repeat' (first | assumption | exact rfl | refine And.intro ?_ ?_ | omega | (simp only [decide_eq_true_eq, decide_eq_false_iff_not] at *; omega) | (simp; done))); done) ?_
      | with_reducible refine c_byt (by with_unfolding_all exact rfl) (by assumption) ?_
      | with_reducible refine c_byf (by with_unfolding_all exact rfl) (by assumption) ?_
      | with_reducible refine draw_lit (by with_unfolding_all exact rfl) (by with_unfolding_all exact rfl) (by with_unfolding_all exact rfl) (by with_unfolding_all exact rfl) (by with_unfolding_all exact rfl) (by with_unfolding_all first | exact trivial | (simp only [AllP, addC, List.cons_append, List.nil_append]; repeat' (first | assumption | exact rfl | refine And.intro ?_ ?_ | omega | (simp only [decide_eq_true_eq, decide_eq_false_iff_not] at *; omega) | (simp; done))); done) ?_
      | with_reducible refine draw_by (r := true) (by with_unfolding_all exact rfl) (by with_unfolding_all exact rfl) (by assumption) (by with_unfolding_all exact rfl) ?_
      | with_reducible refine draw_by (r := false) (by with_unfolding_all exact rfl) (by with_unfolding_all exact rfl) (by assumption) (by with_unfolding_all exact rfl) ?_
      | with_reducible refine ops_by (r := true) (by with_unfolding_all exact rfl) (by assumption) (by with_unfolding_all exact rfl) ?_
      | with_reducible refine ops_by (r := false) (by with_unfolding_all exact rfl) (by assumption) (by with_unfolding_all exact rfl) ?_
      | (with_reducible refine c_split (by with_unfolding_all exact rfl) ?_ ?_ <;> (intro h; try (exfalso; simp at h; done)))
      | (with_reducible refine draw_split (by with_unfolding_all exact rfl) (by with_unfolding_all exact rfl) (by with_unfolding_all exact rfl) (by with_unfolding_all exact rfl) ?_ ?_ <;> (intro h; try (exfalso; simp at h; done)))
      | (with_reducible refine ops_split (by with_unfolding_all exact rfl) (by with_unfolding_all exact rfl) (by with_unfolding_all exact rfl) ?_ ?_ <;> (intro h; try (exfalso; simp at h; done)))
      | with_reducible refine ops_run (by with_unfolding_all exact rfl) (by with_unfolding_all exact rfl) ?_ ?_
      | with_reducible refine ops_lit (by with_unfolding_all exact rfl) (by with_unfolding_all exact rfl) (by with_unfolding_all exact rfl) (by with_unfolding_all exact rfl) ?_ ?_
      | with_reducible refine draw_run (by with_unfolding_all exact rfl) (by with_unfolding_all exact rfl) ?_ ?_
      | with_reducible refine draw_lit (by with_unfolding_all exact rfl) (by with_unfolding_all exact rfl) (by with_unfolding_all exact rfl) (by with_unfolding_all exact rfl) (by with_unfolding_all exact rfl) ?_ ?_
      | with_reducible refine p_ret (by with_unfolding_all exact rfl) ?_ ?_))
  refine c_conv [(3, [.int .i64 fun _ => 0])] [] [(2, [some 6])] (by with_unfolding_all exact rfl) ?_
  refine c_loop 7 (NIn s most) s (by with_unfolding_all exact rfl) ?_ ?_
  · refine gcM_go fun rw => ⟨[true, true], [some 0, some 1, some 2, some 3, some 4, some 5, none, some 6], _, _, _, rfl, trivial, ?_⟩
    exact ⟨rw, s, 0, _, none, 0, [], rfl, hs, rfl, rfl, fun i hi => (by omega), by omega, rfl, rfl⟩
  · rintro m a H ⟨rw0, r, L, f, p, cap, don, rfl, hr, hb, hL, hf, hm, rfl, rfl⟩
    have hL64 : L ≤ 64 := by
      have h1 := bitsL_len s
      rw [hb, List.length_append] at h1; omega
    rcases Nat.eq_zero_or_pos r with h0 | h0
    · subst h0
      have e : min most.toNat (bitsL s).length = L := by rw [hb, bitsL_zero, List.append_nil, ← hL]; omega
      rw [e]
      (repeat' (first
          | with_reducible refine c_seq ?_
          | with_reducible refine p_then_n ?_
          | with_reducible refine p_nrm ?_
          | with_reducible refine c_region (by with_unfolding_all exact rfl) ?_
          | with_reducible refine ops_run (by with_unfolding_all exact rfl) (by with_unfolding_all exact rfl) (by with_unfolding_all first | exact trivial | (simp only [AllP, addC, List.cons_append, List.nil_append]; repeat' (first | assumption | exact rfl | refine And.intro ?_ ?_ | omega | (simp only [decide_eq_true_eq, decide_eq_false_iff_not] at *; omega) | (simp; done))); done) ?_
          | with_reducible refine ops_nil ?_
          | with_reducible refine ops_step (by with_unfolding_all exact rfl) (call_text (by with_unfolding_all exact rfl) (by with_unfolding_all exact rfl) (by with_unfolding_all exact rfl) ?_)
          | with_reducible refine one_step (by with_unfolding_all exact rfl) (call_text (by with_unfolding_all exact rfl) (by with_unfolding_all exact rfl) (by with_unfolding_all exact rfl) ?_)
          | with_reducible refine aft_go (by with_unfolding_all exact rfl) ?_
          | (with_reducible refine ops_step (by with_unfolding_all exact rfl) (look_go (by with_unfolding_all exact rfl) (fun g h => ?_) (fun h => ?_)) <;> (try (exfalso; simp at h; done)))
          | (with_reducible refine one_step (by with_unfolding_all exact rfl) (look_go (by with_unfolding_all exact rfl) (fun g h => ?_) (fun h => ?_)) <;> (try (exfalso; simp at h; done)))
          | with_reducible refine c_draw (by with_unfolding_all exact rfl) (by with_unfolding_all exact rfl) (by with_unfolding_all exact rfl) ?_
          | with_reducible refine draw_run (by with_unfolding_all exact rfl) (by with_unfolding_all exact rfl) (by with_unfolding_all first | exact trivial | (simp only [AllP, addC, List.cons_append, List.nil_append]; repeat' (first | assumption | exact rfl | refine And.intro ?_ ?_ | omega | (simp only [decide_eq_true_eq, decide_eq_false_iff_not] at *; omega) | (simp; done))); done) ?_
          | with_reducible refine draw_done (by with_unfolding_all exact rfl) ?_
          | with_reducible refine draw_many (by with_unfolding_all exact rfl) (by with_unfolding_all exact rfl) ?_
          | with_reducible refine allD_one ?_
          | with_reducible refine one_step (by with_unfolding_all exact rfl) (stp_eff (by with_unfolding_all exact rfl) (by with_unfolding_all exact rfl) (by with_unfolding_all first | exact trivial | (simp only [AllP, addC, List.cons_append, List.nil_append]; repeat' (first | assumption | exact rfl | refine And.intro ?_ ?_ | omega | (simp only [decide_eq_true_eq, decide_eq_false_iff_not] at *; omega) | (simp; done))); done) ?_)
          | with_reducible refine aftD_go (by with_unfolding_all exact rfl) (by with_unfolding_all exact rfl) (by with_unfolding_all first | exact trivial | (simp only [AllP, addC, List.cons_append, List.nil_append]; repeat' (first | assumption | exact rfl | refine And.intro ?_ ?_ | omega | (simp only [decide_eq_true_eq, decide_eq_false_iff_not] at *; omega) | (simp; done))); done) ?_
          | with_reducible refine allD_more ?_ ?_
          | with_reducible refine ops_step (by with_unfolding_all exact rfl) (app_go (by with_unfolding_all exact rfl) (by with_unfolding_all first | exact trivial | (simp only [AllP, addC, List.cons_append, List.nil_append]; repeat' (first | assumption | exact rfl | refine And.intro ?_ ?_ | omega | (simp only [decide_eq_true_eq, decide_eq_false_iff_not] at *; omega) | (simp; done))); done) (fun p cap hcap => ?_))
          | with_reducible refine ops_step (by with_unfolding_all exact rfl) (mk_go (by with_unfolding_all exact rfl) (by with_unfolding_all first | exact trivial | (simp only [AllP, addC, List.cons_append, List.nil_append]; repeat' (first | assumption | exact rfl | refine And.intro ?_ ?_ | omega | (simp only [decide_eq_true_eq, decide_eq_false_iff_not] at *; omega) | (simp; done))); done) (fun p => ?_))
          | with_reducible refine ops_step (by with_unfolding_all exact rfl) (yld_go (by with_unfolding_all exact rfl) ?_)
          | with_reducible refine one_step (by with_unfolding_all exact rfl) (app_go (by with_unfolding_all exact rfl) (by with_unfolding_all first | exact trivial | (simp only [AllP, addC, List.cons_append, List.nil_append]; repeat' (first | assumption | exact rfl | refine And.intro ?_ ?_ | omega | (simp only [decide_eq_true_eq, decide_eq_false_iff_not] at *; omega) | (simp; done))); done) (fun p cap hcap => ?_))
          | with_reducible refine one_step (by with_unfolding_all exact rfl) (mk_go (by with_unfolding_all exact rfl) (by with_unfolding_all first | exact trivial | (simp only [AllP, addC, List.cons_append, List.nil_append]; repeat' (first | assumption | exact rfl | refine And.intro ?_ ?_ | omega | (simp only [decide_eq_true_eq, decide_eq_false_iff_not] at *; omega) | (simp; done))); done) (fun p => ?_))
          | with_reducible refine one_step (by with_unfolding_all exact rfl) (yld_go (by with_unfolding_all exact rfl) ?_)
          | with_reducible refine c_range (by with_unfolding_all exact rfl) (by with_unfolding_all exact rfl) (by with_unfolding_all exact rfl) (by with_unfolding_all exact rfl) (by with_unfolding_all exact rfl) ?_
          | with_reducible refine c_range_in (by with_unfolding_all exact rfl) (by with_unfolding_all exact rfl) (by with_unfolding_all exact rfl) (by with_unfolding_all exact rfl) (by with_unfolding_all exact rfl) (by with_unfolding_all exact rfl) ?_
          | with_reducible refine roundA_go (by with_unfolding_all exact rfl) (by with_unfolding_all exact rfl) ?_
          | with_reducible refine roundB_n (by with_unfolding_all exact rfl) ?_
          | with_reducible refine roundB_r (by with_unfolding_all exact rfl) ?_
          | with_reducible refine roundB_e (by with_unfolding_all exact rfl) ?_
          | with_reducible refine aftR_n (by with_unfolding_all exact rfl) (by with_unfolding_all exact rfl) ?_
          | with_reducible refine aftR_c (by with_unfolding_all exact rfl) (by with_unfolding_all exact rfl) ?_
          | with_reducible refine c_t (by with_unfolding_all exact rfl) ?_
          | with_reducible refine c_f (by with_unfolding_all exact rfl) ?_
          | with_reducible refine c_ret ?_
          | with_reducible refine c_exit ?_
          | with_reducible refine c_skip ?_
          | with_reducible refine c_block ?_
          | with_reducible refine p_then_r ?_
          | with_reducible refine p_then_e ?_
          | with_reducible refine p_blk_n ?_
          | with_reducible refine p_blk_r ?_
          | with_reducible refine p_blk_hit (by with_unfolding_all exact rfl) ?_
          | with_reducible refine p_blk_miss (by with_unfolding_all exact rfl) ?_
          | with_reducible refine p_ret (by with_unfolding_all exact rfl) (by with_unfolding_all first | exact trivial | (simp only [AllP, addC, List.cons_append, List.nil_append]; repeat' (first | assumption | exact rfl | refine And.intro ?_ ?_ | omega | (simp only [decide_eq_true_eq, decide_eq_false_iff_not] at *; omega) | (simp; done))); done) ?_
          | with_reducible refine p_ret_n (by with_unfolding_all exact rfl) (by with_unfolding_all first | exact trivial | (simp only [AllP, addC, List.cons_append, List.nil_append]; repeat' (first | assumption | exact rfl | refine And.intro ?_ ?_ | omega | (simp only [decide_eq_true_eq, decide_eq_false_iff_not] at *; omega) | (simp; done))); done) ?_
          | with_reducible refine ops_lit (by with_unfolding_all exact rfl) (by with_unfolding_all exact rfl) (by with_unfolding_all exact rfl) (by with_unfolding_all exact rfl) (by with_unfolding_all first | exact trivial | (simp only [AllP, addC, List.cons_append, List.nil_append]; repeat' (first | assumption | exact rfl | refine And.intro ?_ ?_ | omega | (simp only [decide_eq_true_eq, decide_eq_false_iff_not] at *; omega) | (simp; done))); done) ?_
          | with_reducible refine c_byt (by with_unfolding_all exact rfl) (by assumption) ?_
          | with_reducible refine c_byf (by with_unfolding_all exact rfl) (by assumption) ?_
          | with_reducible refine draw_lit (by with_unfolding_all exact rfl) (by with_unfolding_all exact rfl) (by with_unfolding_all exact rfl) (by with_unfolding_all exact rfl) (by with_unfolding_all exact rfl) (by with_unfolding_all first | exact trivial | (simp only [AllP, addC, List.cons_append, List.nil_append]; repeat' (first | assumption | exact rfl | refine And.intro ?_ ?_ | omega | (simp only [decide_eq_true_eq, decide_eq_false_iff_not] at *; omega) | (simp; done))); done) ?_
          | with_reducible refine draw_by (r := true) (by with_unfolding_all exact rfl) (by with_unfolding_all exact rfl) (by assumption) (by with_unfolding_all exact rfl) ?_
          | with_reducible refine draw_by (r := false) (by with_unfolding_all exact rfl) (by with_unfolding_all exact rfl) (by assumption) (by with_unfolding_all exact rfl) ?_
          | with_reducible refine ops_by (r := true) (by with_unfolding_all exact rfl) (by assumption) (by with_unfolding_all exact rfl) ?_
          | with_reducible refine ops_by (r := false) (by with_unfolding_all exact rfl) (by assumption) (by with_unfolding_all exact rfl) ?_
          | (with_reducible refine c_split (by with_unfolding_all exact rfl) ?_ ?_ <;> (intro h; try (exfalso; simp at h; done)))
          | (with_reducible refine draw_split (by with_unfolding_all exact rfl) (by with_unfolding_all exact rfl) (by with_unfolding_all exact rfl) (by with_unfolding_all exact rfl) ?_ ?_ <;> (intro h; try (exfalso; simp at h; done)))
          | (with_reducible refine ops_split (by with_unfolding_all exact rfl) (by with_unfolding_all exact rfl) (by with_unfolding_all exact rfl) ?_ ?_ <;> (intro h; try (exfalso; simp at h; done)))
          | with_reducible refine ops_run (by with_unfolding_all exact rfl) (by with_unfolding_all exact rfl) ?_ ?_
          | with_reducible refine ops_lit (by with_unfolding_all exact rfl) (by with_unfolding_all exact rfl) (by with_unfolding_all exact rfl) (by with_unfolding_all exact rfl) ?_ ?_
          | with_reducible refine draw_run (by with_unfolding_all exact rfl) (by with_unfolding_all exact rfl) ?_ ?_
          | with_reducible refine draw_lit (by with_unfolding_all exact rfl) (by with_unfolding_all exact rfl) (by with_unfolding_all exact rfl) (by with_unfolding_all exact rfl) (by with_unfolding_all exact rfl) ?_ ?_
          | with_reducible refine p_ret (by with_unfolding_all exact rfl) ?_ ?_))
      (with_reducible refine gcS_go [some 0, some 7] (by with_unfolding_all exact rfl) (by with_unfolding_all exact trivial) ?_)
      exact ⟨p, cap, f, rfl, rfl, fun i hi => by rw [hf i hi, hb, bitsL_zero, List.append_nil]⟩
    · obtain ⟨k, hk, h2, h3, h4⟩ := bitsL_step r h0 hr
      have hne : ((r : Int) != 0) = true := by simp; omega
      have hand : bitsI .and .u64 (r : Int) (IntKind.u64.wrap ((r : Int) - 1)) = ((r &&& (r - 1) : Nat) : Int) := by
        rw [show (r : Int) - 1 = ((r - 1 : Nat) : Int) by omega, wrap_nat (by omega), bits_and hr (by omega)]
      (repeat' (first
          | with_reducible refine c_seq ?_
          | with_reducible refine p_then_n ?_
          | with_reducible refine p_nrm ?_
          | with_reducible refine c_region (by with_unfolding_all exact rfl) ?_
          | with_reducible refine ops_run (by with_unfolding_all exact rfl) (by with_unfolding_all exact rfl) (by with_unfolding_all first | exact trivial | (simp only [AllP, addC, List.cons_append, List.nil_append]; repeat' (first | assumption | exact rfl | refine And.intro ?_ ?_ | omega | (simp only [decide_eq_true_eq, decide_eq_false_iff_not] at *; omega) | (simp; done))); done) ?_
          | with_reducible refine ops_nil ?_
          | (with_reducible refine ops_step (by with_unfolding_all exact rfl) (call_law tz_sound (by with_unfolding_all exact rfl) (by with_unfolding_all exact rfl) ?_); refine ⟨r, k, 0, rfl, rfl, h0, hr, hk, h2, ?_⟩)
          | (with_reducible refine one_step (by with_unfolding_all exact rfl) (call_law tz_sound (by with_unfolding_all exact rfl) (by with_unfolding_all exact rfl) ?_); refine ⟨r, k, 0, rfl, rfl, h0, hr, hk, h2, ?_⟩)
          | with_reducible refine ops_step (by with_unfolding_all exact rfl) (call_text (by with_unfolding_all exact rfl) (by with_unfolding_all exact rfl) (by with_unfolding_all exact rfl) ?_)
          | with_reducible refine one_step (by with_unfolding_all exact rfl) (call_text (by with_unfolding_all exact rfl) (by with_unfolding_all exact rfl) (by with_unfolding_all exact rfl) ?_)
          | with_reducible refine aft_go (by with_unfolding_all exact rfl) ?_
          | (with_reducible refine ops_step (by with_unfolding_all exact rfl) (look_go (by with_unfolding_all exact rfl) (fun g h => ?_) (fun h => ?_)) <;> (try (exfalso; simp at h; done)))
          | (with_reducible refine one_step (by with_unfolding_all exact rfl) (look_go (by with_unfolding_all exact rfl) (fun g h => ?_) (fun h => ?_)) <;> (try (exfalso; simp at h; done)))
          | with_reducible refine c_draw (by with_unfolding_all exact rfl) (by with_unfolding_all exact rfl) (by with_unfolding_all exact rfl) ?_
          | with_reducible refine draw_run (by with_unfolding_all exact rfl) (by with_unfolding_all exact rfl) (by with_unfolding_all first | exact trivial | (simp only [AllP, addC, List.cons_append, List.nil_append]; repeat' (first | assumption | exact rfl | refine And.intro ?_ ?_ | omega | (simp only [decide_eq_true_eq, decide_eq_false_iff_not] at *; omega) | (simp; done))); done) ?_
          | with_reducible refine draw_done (by with_unfolding_all exact rfl) ?_
          | with_reducible refine draw_many (by with_unfolding_all exact rfl) (by with_unfolding_all exact rfl) ?_
          | with_reducible refine allD_one ?_
          | with_reducible refine one_step (by with_unfolding_all exact rfl) (stp_eff (by with_unfolding_all exact rfl) (by with_unfolding_all exact rfl) (by with_unfolding_all first | exact trivial | (simp only [AllP, addC, List.cons_append, List.nil_append]; repeat' (first | assumption | exact rfl | refine And.intro ?_ ?_ | omega | (simp only [decide_eq_true_eq, decide_eq_false_iff_not] at *; omega) | (simp; done))); done) ?_)
          | with_reducible refine aftD_go (by with_unfolding_all exact rfl) (by with_unfolding_all exact rfl) (by with_unfolding_all first | exact trivial | (simp only [AllP, addC, List.cons_append, List.nil_append]; repeat' (first | assumption | exact rfl | refine And.intro ?_ ?_ | omega | (simp only [decide_eq_true_eq, decide_eq_false_iff_not] at *; omega) | (simp; done))); done) ?_
          | with_reducible refine allD_more ?_ ?_
          | with_reducible refine ops_step (by with_unfolding_all exact rfl) (app_go (by with_unfolding_all exact rfl) (by with_unfolding_all first | exact trivial | (simp only [AllP, addC, List.cons_append, List.nil_append]; repeat' (first | assumption | exact rfl | refine And.intro ?_ ?_ | omega | (simp only [decide_eq_true_eq, decide_eq_false_iff_not] at *; omega) | (simp; done))); done) (fun p cap hcap => ?_))
          | with_reducible refine ops_step (by with_unfolding_all exact rfl) (mk_go (by with_unfolding_all exact rfl) (by with_unfolding_all first | exact trivial | (simp only [AllP, addC, List.cons_append, List.nil_append]; repeat' (first | assumption | exact rfl | refine And.intro ?_ ?_ | omega | (simp only [decide_eq_true_eq, decide_eq_false_iff_not] at *; omega) | (simp; done))); done) (fun p => ?_))
          | with_reducible refine ops_step (by with_unfolding_all exact rfl) (yld_go (by with_unfolding_all exact rfl) ?_)
          | with_reducible refine one_step (by with_unfolding_all exact rfl) (app_go (by with_unfolding_all exact rfl) (by with_unfolding_all first | exact trivial | (simp only [AllP, addC, List.cons_append, List.nil_append]; repeat' (first | assumption | exact rfl | refine And.intro ?_ ?_ | omega | (simp only [decide_eq_true_eq, decide_eq_false_iff_not] at *; omega) | (simp; done))); done) (fun p cap hcap => ?_))
          | with_reducible refine one_step (by with_unfolding_all exact rfl) (mk_go (by with_unfolding_all exact rfl) (by with_unfolding_all first | exact trivial | (simp only [AllP, addC, List.cons_append, List.nil_append]; repeat' (first | assumption | exact rfl | refine And.intro ?_ ?_ | omega | (simp only [decide_eq_true_eq, decide_eq_false_iff_not] at *; omega) | (simp; done))); done) (fun p => ?_))
          | with_reducible refine one_step (by with_unfolding_all exact rfl) (yld_go (by with_unfolding_all exact rfl) ?_)
          | with_reducible refine c_range (by with_unfolding_all exact rfl) (by with_unfolding_all exact rfl) (by with_unfolding_all exact rfl) (by with_unfolding_all exact rfl) (by with_unfolding_all exact rfl) ?_
          | with_reducible refine c_range_in (by with_unfolding_all exact rfl) (by with_unfolding_all exact rfl) (by with_unfolding_all exact rfl) (by with_unfolding_all exact rfl) (by with_unfolding_all exact rfl) (by with_unfolding_all exact rfl) ?_
          | with_reducible refine roundA_go (by with_unfolding_all exact rfl) (by with_unfolding_all exact rfl) ?_
          | with_reducible refine roundB_n (by with_unfolding_all exact rfl) ?_
          | with_reducible refine roundB_r (by with_unfolding_all exact rfl) ?_
          | with_reducible refine roundB_e (by with_unfolding_all exact rfl) ?_
          | with_reducible refine aftR_n (by with_unfolding_all exact rfl) (by with_unfolding_all exact rfl) ?_
          | with_reducible refine aftR_c (by with_unfolding_all exact rfl) (by with_unfolding_all exact rfl) ?_
          | with_reducible refine c_t (by with_unfolding_all exact rfl) ?_
          | with_reducible refine c_f (by with_unfolding_all exact rfl) ?_
          | with_reducible refine c_ret ?_
          | with_reducible refine c_exit ?_
          | with_reducible refine c_skip ?_
          | with_reducible refine c_block ?_
          | with_reducible refine p_then_r ?_
          | with_reducible refine p_then_e ?_
          | with_reducible refine p_blk_n ?_
          | with_reducible refine p_blk_r ?_
          | with_reducible refine p_blk_hit (by with_unfolding_all exact rfl) ?_
          | with_reducible refine p_blk_miss (by with_unfolding_all exact rfl) ?_
          | with_reducible refine p_ret (by with_unfolding_all exact rfl) (by with_unfolding_all first | exact trivial | (simp only [AllP, addC, List.cons_append, List.nil_append]; repeat' (first | assumption | exact rfl | refine And.intro ?_ ?_ | omega | (simp only [decide_eq_true_eq, decide_eq_false_iff_not] at *; omega) | (simp; done))); done) ?_
          | with_reducible refine p_ret_n (by with_unfolding_all exact rfl) (by with_unfolding_all first | exact trivial | (simp only [AllP, addC, List.cons_append, List.nil_append]; repeat' (first | assumption | exact rfl | refine And.intro ?_ ?_ | omega | (simp only [decide_eq_true_eq, decide_eq_false_iff_not] at *; omega) | (simp; done))); done) ?_
          | with_reducible refine ops_lit (by with_unfolding_all exact rfl) (by with_unfolding_all exact rfl) (by with_unfolding_all exact rfl) (by with_unfolding_all exact rfl) (by with_unfolding_all first | exact trivial | (simp only [AllP, addC, List.cons_append, List.nil_append]; repeat' (first | assumption | exact rfl | refine And.intro ?_ ?_ | omega | (simp only [decide_eq_true_eq, decide_eq_false_iff_not] at *; omega) | (simp; done))); done) ?_
          | with_reducible refine c_byt (by with_unfolding_all exact rfl) (by assumption) ?_
          | with_reducible refine c_byf (by with_unfolding_all exact rfl) (by assumption) ?_
          | with_reducible refine draw_lit (by with_unfolding_all exact rfl) (by with_unfolding_all exact rfl) (by with_unfolding_all exact rfl) (by with_unfolding_all exact rfl) (by with_unfolding_all exact rfl) (by with_unfolding_all first | exact trivial | (simp only [AllP, addC, List.cons_append, List.nil_append]; repeat' (first | assumption | exact rfl | refine And.intro ?_ ?_ | omega | (simp only [decide_eq_true_eq, decide_eq_false_iff_not] at *; omega) | (simp; done))); done) ?_
          | with_reducible refine draw_by (r := true) (by with_unfolding_all exact rfl) (by with_unfolding_all exact rfl) (by assumption) (by with_unfolding_all exact rfl) ?_
          | with_reducible refine draw_by (r := false) (by with_unfolding_all exact rfl) (by with_unfolding_all exact rfl) (by assumption) (by with_unfolding_all exact rfl) ?_
          | with_reducible refine ops_by (r := true) (by with_unfolding_all exact rfl) (by assumption) (by with_unfolding_all exact rfl) ?_
          | with_reducible refine ops_by (r := false) (by with_unfolding_all exact rfl) (by assumption) (by with_unfolding_all exact rfl) ?_
          | (with_reducible refine c_split (by with_unfolding_all exact rfl) ?_ ?_ <;> (intro h; try (exfalso; simp at h; done)))
          | (with_reducible refine draw_split (by with_unfolding_all exact rfl) (by with_unfolding_all exact rfl) (by with_unfolding_all exact rfl) (by with_unfolding_all exact rfl) ?_ ?_ <;> (intro h; try (exfalso; simp at h; done)))
          | (with_reducible refine ops_split (by with_unfolding_all exact rfl) (by with_unfolding_all exact rfl) (by with_unfolding_all exact rfl) ?_ ?_ <;> (intro h; try (exfalso; simp at h; done)))
          | with_reducible refine ops_run (by with_unfolding_all exact rfl) (by with_unfolding_all exact rfl) ?_ ?_
          | with_reducible refine ops_lit (by with_unfolding_all exact rfl) (by with_unfolding_all exact rfl) (by with_unfolding_all exact rfl) (by with_unfolding_all exact rfl) ?_ ?_
          | with_reducible refine draw_run (by with_unfolding_all exact rfl) (by with_unfolding_all exact rfl) ?_ ?_
          | with_reducible refine draw_lit (by with_unfolding_all exact rfl) (by with_unfolding_all exact rfl) (by with_unfolding_all exact rfl) (by with_unfolding_all exact rfl) (by with_unfolding_all exact rfl) ?_ ?_
          | with_reducible refine p_ret (by with_unfolding_all exact rfl) ?_ ?_))
      · have hlen : L < (bitsL s).length := by rw [hb, h3]; simp [hL]
        have e : min most.toNat (bitsL s).length = L := by simp only [decide_eq_true_eq] at h; omega
        rw [e]
        (with_reducible refine gcS_go [some 0, some 7] (by with_unfolding_all exact rfl) (by with_unfolding_all exact trivial) ?_)
        refine ⟨p, cap, f, rfl, rfl, fun i hi => ?_⟩
        rw [hf i hi, hb]
        simp [List.getD, List.getElem?_append_left (show i < don.length by omega)]
      · refine again_go fun rw => ⟨[true, true], [some 0, some 1, some 2, some 3, some 4, some 5, none, some 9], _, _, _, rfl, trivial, r &&& (r - 1), h4, rw, r &&& (r - 1), L + 1, fun i => if i < L then f (0 + i) else (k : Int), p, cap, don ++ [k], rfl, by omega, ?_, ?_, fun i hi => ?_, ?_, rfl, ?_⟩
        · rw [hb, h3]; simp
        · simp [hL]
        · rcases Nat.lt_or_ge i L with hi2 | hi2
          · dsimp only
            rw [if_pos hi2, Nat.zero_add, hf i hi2]
            simp [List.getD, List.getElem?_append_left (show i < don.length by omega)]
          · obtain rfl : i = L := by omega
            dsimp only
            rw [if_neg (by omega)]
            subst hL
            simp [List.getD]
        · simp only [decide_eq_false_iff_not] at h; omega
        · rw [NH, ← hand]; rfl
theorem num_sound : Sound Tryd.prog 10 fun args H k => ∃ (s l : Nat) (most : Int), args = [.int .u64 (s : Int), .int .i64 most] ∧ s < 2 ^ 64 ∧ H[l]? = some tabO ∧
    (∀ (p : Option Addr) (cap : Nat) (f : Nat → Int), (∀ i, i < min most.toNat (bitsL s).length → f i = (((bitsL s).getD i 0 : Nat) : Int)) →
      k (.slc p cap H.length 0 (min most.toNat (bitsL s).length)) (H ++ [.mem true 3 [] (min most.toNat (bitsL s).length) [.int .i64 f]])) := by
  refine sound_small hNG hmix ?_
  rintro args H k ⟨s, l, most, rfl, hs, h1, hk⟩
  refine ⟨60, _, _, [l], _, num_ev s most hs, rfl, stands_of (by simp) ⟨h1, trivial⟩, ⟨trivial, trivial⟩, rfl, by simp [tabO, Ob.live], ?_⟩
  rintro v H' ⟨p, cap, f, rfl, rfl, hf⟩
  refine ⟨fun j o hj h hl => ?_, ?_⟩
  · match j, hj, h with
    | 1, _, h => simp at h; subst h; rfl
    | j + 2, _, h => simp at h
  · have := hk p cap f hf
    rw [show merge (rho [l] H.length) [l] [tabO, .mem true 3 [] (min most.toNat (bitsL s).length) [.int .i64 f]] H = H.set l tabO ++ [.mem true 3 [] (min most.toNat (bitsL s).length) [.int .i64 f]] from rfl, set_same h1]
    exact this
end Go.Proofs.YtonohiifmepjfaaDoor
