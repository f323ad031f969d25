/-
  The statement's function, reckoned: whatever the arguments, true.
-/
import Derived.Test.YtlejlgadonogeaaEl2
import Derived.IntWalk
namespace Go.Proofs.Ytlejlgadonogeaa
open Go Go.RowKit Ev
set_option maxHeartbeats 4000000
set_option maxRecDepth 100000

def T (A : Addr) (cap n : Nat) (rw : Nat → Value) (x : Int) : List V := [.raw (rw 0), .raw (rw 1), .raw (rw 2), .raw (rw 3), .raw (rw 4), .raw (rw 5), .raw (rw 6), .ptr 6 0 0, .raw (rw 8), .ptr 8 0 0, .raw (rw 10), .raw (rw 11), .raw (rw 12), .raw (rw 13), .raw (rw 14), .raw (rw 15), .raw (rw 16), .raw (rw 17), .raw (rw 18), .raw (rw 19), .raw (rw 20), .raw (rw 21), .raw (rw 22), .raw (rw 23), .raw (rw 24), .raw (rw 25), .raw (rw 26), .raw (rw 27), .raw (rw 28), .raw (rw 29), .raw (rw 30), .raw (rw 31), .raw (rw 32), .raw (rw 33), .raw (rw 34), .raw (rw 35), .raw (rw 36), .raw (rw 37), .raw (rw 38), .raw (rw 39), .raw (rw 40), .raw (rw 41), .raw (rw 42), .raw (rw 43), .raw (rw 44), .raw (rw 45), .raw (rw 46), .raw (rw 47), .raw (rw 48), .raw (rw 49), .raw (rw 50), .slc A cap 0 0 n, .int .i64 n, .int .i64 x, .raw (rw 54), .raw (rw 55), .raw (rw 56), .raw (rw 57), .raw (rw 58), .raw (rw 59), .raw (rw 60), .raw (rw 61), .raw (rw 62), .raw (rw 63), .raw (rw 64), .raw (rw 65), .raw (rw 66), .raw (rw 67), .raw (rw 68), .raw (rw 69), .raw (rw 70), .raw (rw 71), .raw (rw 72), .raw (rw 73), .raw (rw 74), .raw (rw 75), .raw (rw 76), .raw (rw 77), .raw (rw 78), .raw (rw 79), .raw (rw 80), .raw (rw 81), .raw (rw 82), .raw (rw 83), .raw (rw 84), .raw (rw 85), .raw (rw 86), .raw (rw 87), .raw (rw 88), .raw (rw 89), .raw (rw 90), .raw (rw 91), .raw (rw 92), .raw (rw 93), .raw (rw 94), .raw (rw 95), .raw (rw 96), .raw (rw 97), .raw (rw 98), .raw (rw 99), .raw (rw 100), .raw (rw 101), .raw (rw 102), .raw (rw 103), .raw (rw 104), .raw (rw 105), .raw (rw 106), .raw (rw 107), .raw (rw 108), .raw (rw 109), .raw (rw 110), .raw (rw 111), .raw (rw 112), .raw (rw 113), .raw (rw 114), .raw (rw 115), .raw (rw 116), .raw (rw 117), .raw (rw 118), .raw (rw 119), .raw (rw 120), .raw (rw 121), .raw (rw 122), .raw (rw 123), .raw (rw 124), .raw (rw 125), .raw (rw 126), .raw (rw 127), .raw (rw 128), .raw (rw 129), .raw (rw 130), .raw (rw 131), .raw (rw 132), .raw (rw 133), .raw (rw 134), .raw (rw 135), .raw (rw 136), .raw (rw 137), .raw (rw 138), .raw (rw 139), .raw (rw 140), .raw (rw 141), .raw (rw 142), .raw (rw 143), .raw (rw 144), .raw (rw 145), .raw (rw 146), .raw (rw 147), .raw (rw 148), .raw (rw 149), .raw (rw 150), .raw (rw 151), .raw (rw 152), .raw (rw 153)]
def HH (fk fr fb fq : Nat → Int) (n : Nat) (s : St) : List Ob := [.mem false 34 [] n [.int .i64 fk, .int .i64 fr, .int .u16 fb, .int .u16 fq], .dead, .dead, .dead, .dead, .dead, elO s 7, mpO s, elO s 9, mpO s]
def In (A : Addr) (cap : Nat) (fk fr fb fq : Nat → Int) (n : Nat) (m : Nat) (a : LAct) (H : List Ob) : Prop :=
  ∃ (rw : Nat → Value) (i : Nat) (s : St), i + m = n ∧ a = ⟨T A cap n rw i, []⟩ ∧ H = HH fk fr fb fq n s
theorem law_ev (me to ig : Int) (A : Addr) (cap n : Nat) (fk fr fb fq : Nat → Int) :
    evF Try.prog 60 3 [.int .i64 me, .agg [.int .i64 to, .int .i64 ig], .slc A cap 0 0 n] [.mem false 34 [] n [.int .i64 fk, .int .i64 fr, .int .u16 fb, .int .u16 fq]] (fun v _ => v = .bool true) := by
  ((with_reducible refine evF_go (by with_unfolding_all exact rfl) (by with_unfolding_all exact rfl) ?_); repeat' (first
      | with_reducible refine c_seq ?_
      | with_reducible refine p_then_n ?_
      | with_reducible refine p_nrm ?_
      | with_reducible refine c_region (by with_unfolding_all exact rfl) ?_
      | with_reducible refine ops_run (by with_unfolding_all exact rfl) (by with_unfolding_all exact rfl) (by with_unfolding_all first | exact trivial | (repeat' (first | exact rfl | refine And.intro ?_ ?_ | omega | (simp only [decide_eq_true_eq, decide_eq_false_iff_not] at *; omega) | (simp; done)))) ?_
      | with_reducible refine ops_nil ?_
      | (with_reducible refine ops_step (by with_unfolding_all exact rfl) (call_law hear_sound (by with_unfolding_all exact rfl) (by with_unfolding_all exact rfl) ?_); first | refine ⟨_, _, _, _, _, _, rfl, rfl, rfl, (by first | decide | assumption | omega), ?_⟩ | refine ⟨⟨_, _, _, _, _, _, _, _, _⟩, _, _, _, _, _, rfl, rfl, rfl, (by first | decide | assumption | omega), ?_⟩)
      | (with_reducible refine one_step (by with_unfolding_all exact rfl) (call_law hear_sound (by with_unfolding_all exact rfl) (by with_unfolding_all exact rfl) ?_); first | refine ⟨_, _, _, _, _, _, rfl, rfl, rfl, (by first | decide | assumption | omega), ?_⟩ | refine ⟨⟨_, _, _, _, _, _, _, _, _⟩, _, _, _, _, _, rfl, rfl, rfl, (by first | decide | assumption | omega), ?_⟩)
      | (with_reducible refine ops_step (by with_unfolding_all exact rfl) (call_law beat_sound (by with_unfolding_all exact rfl) (by with_unfolding_all exact rfl) ?_); first | refine ⟨_, _, _, rfl, rfl, rfl, (by first | decide | assumption | omega), ?_⟩ | refine ⟨⟨_, _, _, _, _, _, _, _, _⟩, _, _, rfl, rfl, rfl, (by first | decide | assumption | omega), ?_⟩)
      | (with_reducible refine one_step (by with_unfolding_all exact rfl) (call_law beat_sound (by with_unfolding_all exact rfl) (by with_unfolding_all exact rfl) ?_); first | refine ⟨_, _, _, rfl, rfl, rfl, (by first | decide | assumption | omega), ?_⟩ | refine ⟨⟨_, _, _, _, _, _, _, _, _⟩, _, _, rfl, rfl, rfl, (by first | decide | assumption | omega), ?_⟩)
      | (with_reducible refine ops_step (by with_unfolding_all exact rfl) (call_law issue_sound (by with_unfolding_all exact rfl) (by with_unfolding_all exact rfl) ?_); first | refine ⟨_, _, _, rfl, rfl, rfl, (by first | decide | assumption | omega), ?_⟩ | refine ⟨⟨_, _, _, _, _, _, _, _, _⟩, _, _, rfl, rfl, rfl, (by first | decide | assumption | omega), ?_⟩)
      | (with_reducible refine one_step (by with_unfolding_all exact rfl) (call_law issue_sound (by with_unfolding_all exact rfl) (by with_unfolding_all exact rfl) ?_); first | refine ⟨_, _, _, rfl, rfl, rfl, (by first | decide | assumption | omega), ?_⟩ | refine ⟨⟨_, _, _, _, _, _, _, _, _⟩, _, _, rfl, rfl, rfl, (by first | decide | assumption | omega), ?_⟩)
      | (with_reducible refine ops_step (by with_unfolding_all exact rfl) (call_law boot_sound (by with_unfolding_all exact rfl) (by with_unfolding_all exact rfl) ?_); first | refine ⟨_, _, _, _, rfl, rfl, rfl, (by first | decide | assumption | omega), ?_⟩ | refine ⟨⟨_, _, _, _, _, _, _, _, _⟩, _, _, _, rfl, rfl, rfl, (by first | decide | assumption | omega), ?_⟩)
      | (with_reducible refine one_step (by with_unfolding_all exact rfl) (call_law boot_sound (by with_unfolding_all exact rfl) (by with_unfolding_all exact rfl) ?_); first | refine ⟨_, _, _, _, rfl, rfl, rfl, (by first | decide | assumption | omega), ?_⟩ | refine ⟨⟨_, _, _, _, _, _, _, _, _⟩, _, _, _, rfl, rfl, rfl, (by first | decide | assumption | omega), ?_⟩)
      | (with_reducible refine ops_step (by with_unfolding_all exact rfl) (call_law mark_sound (by with_unfolding_all exact rfl) (by with_unfolding_all exact rfl) ?_); first | refine ⟨_, _, _, rfl, rfl, rfl, (by first | decide | assumption | omega), ?_⟩ | refine ⟨⟨_, _, _, _, _, _, _, _, _⟩, _, _, rfl, rfl, rfl, (by first | decide | assumption | omega), ?_⟩)
      | (with_reducible refine one_step (by with_unfolding_all exact rfl) (call_law mark_sound (by with_unfolding_all exact rfl) (by with_unfolding_all exact rfl) ?_); first | refine ⟨_, _, _, rfl, rfl, rfl, (by first | decide | assumption | omega), ?_⟩ | refine ⟨⟨_, _, _, _, _, _, _, _, _⟩, _, _, rfl, rfl, rfl, (by first | decide | assumption | omega), ?_⟩)
      | (with_reducible refine ops_step (by with_unfolding_all exact rfl) (call_law root_sound (by with_unfolding_all exact rfl) (by with_unfolding_all exact rfl) ?_); first | refine ⟨_, _, _, rfl, rfl, rfl, (by first | decide | assumption | omega), ?_⟩ | refine ⟨⟨_, _, _, _, _, _, _, _, _⟩, _, _, rfl, rfl, rfl, (by first | decide | assumption | omega), ?_⟩)
      | (with_reducible refine one_step (by with_unfolding_all exact rfl) (call_law root_sound (by with_unfolding_all exact rfl) (by with_unfolding_all exact rfl) ?_); first | refine ⟨_, _, _, rfl, rfl, rfl, (by first | decide | assumption | omega), ?_⟩ | refine ⟨⟨_, _, _, _, _, _, _, _, _⟩, _, _, rfl, rfl, rfl, (by first | decide | assumption | omega), ?_⟩)
      | (with_reducible refine ops_step (by with_unfolding_all exact rfl) (call_law mine_sound (by with_unfolding_all exact rfl) (by with_unfolding_all exact rfl) ?_); first | refine ⟨_, _, _, rfl, rfl, rfl, (by first | decide | assumption | omega), ?_⟩ | refine ⟨⟨_, _, _, _, _, _, _, _, _⟩, _, _, rfl, rfl, rfl, (by first | decide | assumption | omega), ?_⟩)
      | (with_reducible refine one_step (by with_unfolding_all exact rfl) (call_law mine_sound (by with_unfolding_all exact rfl) (by with_unfolding_all exact rfl) ?_); first | refine ⟨_, _, _, rfl, rfl, rfl, (by first | decide | assumption | omega), ?_⟩ | refine ⟨⟨_, _, _, _, _, _, _, _, _⟩, _, _, rfl, rfl, rfl, (by first | decide | assumption | omega), ?_⟩)
      | (with_reducible refine ops_step (by with_unfolding_all exact rfl) (call_law alive_sound (by with_unfolding_all exact rfl) (by with_unfolding_all exact rfl) ?_); refine ⟨rfl, ?_⟩)
      | (with_reducible refine one_step (by with_unfolding_all exact rfl) (call_law alive_sound (by with_unfolding_all exact rfl) (by with_unfolding_all exact rfl) ?_); refine ⟨rfl, ?_⟩)
      | (with_reducible refine ops_step (by with_unfolding_all exact rfl) (call_law new_sound (by with_unfolding_all exact rfl) (by with_unfolding_all exact rfl) ?_); refine ⟨_, _, _, rfl, (fun hn => ?_), (fun hn => ?_)⟩ <;> try (exfalso; simp_all; done))
      | (with_reducible refine one_step (by with_unfolding_all exact rfl) (call_law new_sound (by with_unfolding_all exact rfl) (by with_unfolding_all exact rfl) ?_); refine ⟨_, _, _, rfl, (fun hn => ?_), (fun hn => ?_)⟩ <;> try (exfalso; simp_all; done))
      | with_reducible refine aft_go (by with_unfolding_all exact rfl) ?_
      | (with_reducible refine ops_step (by with_unfolding_all exact rfl) (look_go (by with_unfolding_all exact rfl) (fun g h => ?_) (fun h => ?_)) <;> (try (exfalso; simp at h; done)))
      | (with_reducible refine one_step (by with_unfolding_all exact rfl) (look_go (by with_unfolding_all exact rfl) (fun g h => ?_) (fun h => ?_)) <;> (try (exfalso; simp at h; done)))
      | with_reducible refine c_draw (by with_unfolding_all exact rfl) (by with_unfolding_all exact rfl) (by with_unfolding_all exact rfl) ?_
      | with_reducible refine draw_run (by with_unfolding_all exact rfl) (by with_unfolding_all exact rfl) (by with_unfolding_all first | exact trivial | (repeat' (first | exact rfl | refine And.intro ?_ ?_ | omega | (simp only [decide_eq_true_eq, decide_eq_false_iff_not] at *; omega) | (simp; done)))) ?_
      | with_reducible refine draw_done (by with_unfolding_all exact rfl) ?_
      | with_reducible refine draw_many (by with_unfolding_all exact rfl) (by with_unfolding_all exact rfl) ?_
      | with_reducible refine allD_one ?_
      | with_reducible refine one_step (by with_unfolding_all exact rfl) (stp_eff (by with_unfolding_all exact rfl) (by with_unfolding_all exact rfl) (by with_unfolding_all first | exact trivial | (repeat' (first | exact rfl | refine And.intro ?_ ?_ | omega | (simp only [decide_eq_true_eq, decide_eq_false_iff_not] at *; omega) | (simp; done)))) ?_)
      | with_reducible refine aftD_go (by with_unfolding_all exact rfl) (by with_unfolding_all exact rfl) (by with_unfolding_all first | exact trivial | (repeat' (first | exact rfl | refine And.intro ?_ ?_ | omega | (simp only [decide_eq_true_eq, decide_eq_false_iff_not] at *; omega) | (simp; done)))) ?_
      | with_reducible refine allD_more ?_ ?_
      | with_reducible refine c_t (by with_unfolding_all exact rfl) ?_
      | with_reducible refine c_f (by with_unfolding_all exact rfl) ?_
      | with_reducible refine c_ret ?_
      | with_reducible refine c_exit ?_
      | with_reducible refine c_skip ?_
      | with_reducible refine c_block ?_
      | with_reducible refine p_then_r ?_
      | with_reducible refine p_then_e ?_
      | with_reducible refine p_blk_n ?_
      | with_reducible refine p_blk_r ?_
      | with_reducible refine p_blk_hit (by with_unfolding_all exact rfl) ?_
      | with_reducible refine p_blk_miss (by with_unfolding_all exact rfl) ?_
      | with_reducible refine p_ret (by with_unfolding_all exact rfl) (by with_unfolding_all first | exact trivial | (repeat' (first | exact rfl | refine And.intro ?_ ?_ | omega | (simp only [decide_eq_true_eq, decide_eq_false_iff_not] at *; omega) | (simp; done)))) ?_
      | with_reducible refine p_ret_n (by with_unfolding_all exact rfl) (by with_unfolding_all first | exact trivial | (repeat' (first | exact rfl | refine And.intro ?_ ?_ | omega | (simp only [decide_eq_true_eq, decide_eq_false_iff_not] at *; omega) | (simp; done)))) ?_
      | with_reducible refine ops_lit (by with_unfolding_all exact rfl) (by with_unfolding_all exact rfl) (by with_unfolding_all exact rfl) (by with_unfolding_all exact rfl) (by with_unfolding_all first | exact trivial | (repeat' (first | exact rfl | refine And.intro ?_ ?_ | omega | (simp only [decide_eq_true_eq, decide_eq_false_iff_not] at *; omega) | (simp; done)))) ?_
      | with_reducible refine c_byt (by with_unfolding_all exact rfl) (by assumption) ?_
      | with_reducible refine c_byf (by with_unfolding_all exact rfl) (by assumption) ?_
      | with_reducible refine draw_lit (by with_unfolding_all exact rfl) (by with_unfolding_all exact rfl) (by with_unfolding_all exact rfl) (by with_unfolding_all exact rfl) (by with_unfolding_all exact rfl) (by with_unfolding_all first | exact trivial | (repeat' (first | exact rfl | refine And.intro ?_ ?_ | omega | (simp only [decide_eq_true_eq, decide_eq_false_iff_not] at *; omega) | (simp; done)))) ?_
      | with_reducible refine draw_by (r := true) (by with_unfolding_all exact rfl) (by with_unfolding_all exact rfl) (by assumption) (by with_unfolding_all exact rfl) ?_
      | with_reducible refine draw_by (r := false) (by with_unfolding_all exact rfl) (by with_unfolding_all exact rfl) (by assumption) (by with_unfolding_all exact rfl) ?_
      | with_reducible refine ops_by (r := true) (by with_unfolding_all exact rfl) (by assumption) (by with_unfolding_all exact rfl) ?_
      | with_reducible refine ops_by (r := false) (by with_unfolding_all exact rfl) (by assumption) (by with_unfolding_all exact rfl) ?_
      | (with_reducible refine c_split (by with_unfolding_all exact rfl) ?_ ?_ <;> (intro h; (try (exfalso; first | (simp at h; done) | (simp only [cond_true, cond_false] at h; simp at h; done); done)); (try rw [hearS_of h])))
      | (with_reducible refine draw_split (by with_unfolding_all exact rfl) (by with_unfolding_all exact rfl) (by with_unfolding_all exact rfl) (by with_unfolding_all exact rfl) ?_ ?_ <;> (intro h; (try (exfalso; first | (simp at h; done) | (simp only [cond_true, cond_false] at h; simp at h; done); done)); (try rw [hearS_of h])))
      | (with_reducible refine ops_split (by with_unfolding_all exact rfl) (by with_unfolding_all exact rfl) (by with_unfolding_all exact rfl) ?_ ?_ <;> (intro h; (try (exfalso; first | (simp at h; done) | (simp only [cond_true, cond_false] at h; simp at h; done); done)); (try rw [hearS_of h])))))
  all_goals try exact rfl
  have hn3 : n ≤ 300 := by simp only [decide_eq_false_iff_not] at *; omega
  refine c_loop 6 (In A cap fk fr fb fq n) n (by with_unfolding_all exact rfl) ?_ ?_
  · refine gcM_go fun rw => ⟨[false, false, false, false, false, false, false, true, false, true, false, false, false, false, false, false, false, false, false, false, false, false, false, false, false, false, false, false, false, false, false, false, false, false, false, false, false, false, false, false, false, false, false, false, false, false, false, false, false, false, false, true, true, true], [some 0, none, none, none, none, none, some 2, some 3, some 4, some 5], _, _, _, rfl, trivial, ?_⟩
    exact ⟨rw, 0, newS me to ig, by omega, rfl, rfl⟩
  · rintro m a H ⟨rw0, i, s, hm, rfl, rfl⟩
    have hw : IntKind.i64.wrap ((i : Int) + 1) = ((i + 1 : Nat) : Int) := IntWalk.i64_in _ (by omega)
    (repeat' (first
        | with_reducible refine c_seq ?_
        | with_reducible refine p_then_n ?_
        | with_reducible refine p_nrm ?_
        | with_reducible refine c_region (by with_unfolding_all exact rfl) ?_
        | with_reducible refine ops_run (by with_unfolding_all exact rfl) (by with_unfolding_all exact rfl) (by with_unfolding_all first | exact trivial | (repeat' (first | exact rfl | refine And.intro ?_ ?_ | omega | (simp only [decide_eq_true_eq, decide_eq_false_iff_not] at *; omega) | (simp; done)))) ?_
        | with_reducible refine ops_nil ?_
        | (with_reducible refine ops_step (by with_unfolding_all exact rfl) (call_law hear_sound (by with_unfolding_all exact rfl) (by with_unfolding_all exact rfl) ?_); first | refine ⟨_, _, _, _, _, _, rfl, rfl, rfl, (by first | decide | assumption | omega), ?_⟩ | refine ⟨⟨_, _, _, _, _, _, _, _, _⟩, _, _, _, _, _, rfl, rfl, rfl, (by first | decide | assumption | omega), ?_⟩)
        | (with_reducible refine one_step (by with_unfolding_all exact rfl) (call_law hear_sound (by with_unfolding_all exact rfl) (by with_unfolding_all exact rfl) ?_); first | refine ⟨_, _, _, _, _, _, rfl, rfl, rfl, (by first | decide | assumption | omega), ?_⟩ | refine ⟨⟨_, _, _, _, _, _, _, _, _⟩, _, _, _, _, _, rfl, rfl, rfl, (by first | decide | assumption | omega), ?_⟩)
        | (with_reducible refine ops_step (by with_unfolding_all exact rfl) (call_law beat_sound (by with_unfolding_all exact rfl) (by with_unfolding_all exact rfl) ?_); first | refine ⟨_, _, _, rfl, rfl, rfl, (by first | decide | assumption | omega), ?_⟩ | refine ⟨⟨_, _, _, _, _, _, _, _, _⟩, _, _, rfl, rfl, rfl, (by first | decide | assumption | omega), ?_⟩)
        | (with_reducible refine one_step (by with_unfolding_all exact rfl) (call_law beat_sound (by with_unfolding_all exact rfl) (by with_unfolding_all exact rfl) ?_); first | refine ⟨_, _, _, rfl, rfl, rfl, (by first | decide | assumption | omega), ?_⟩ | refine ⟨⟨_, _, _, _, _, _, _, _, _⟩, _, _, rfl, rfl, rfl, (by first | decide | assumption | omega), ?_⟩)
        | (with_reducible refine ops_step (by with_unfolding_all exact rfl) (call_law issue_sound (by with_unfolding_all exact rfl) (by with_unfolding_all exact rfl) ?_); first | refine ⟨_, _, _, rfl, rfl, rfl, (by first | decide | assumption | omega), ?_⟩ | refine ⟨⟨_, _, _, _, _, _, _, _, _⟩, _, _, rfl, rfl, rfl, (by first | decide | assumption | omega), ?_⟩)
        | (with_reducible refine one_step (by with_unfolding_all exact rfl) (call_law issue_sound (by with_unfolding_all exact rfl) (by with_unfolding_all exact rfl) ?_); first | refine ⟨_, _, _, rfl, rfl, rfl, (by first | decide | assumption | omega), ?_⟩ | refine ⟨⟨_, _, _, _, _, _, _, _, _⟩, _, _, rfl, rfl, rfl, (by first | decide | assumption | omega), ?_⟩)
        | (with_reducible refine ops_step (by with_unfolding_all exact rfl) (call_law boot_sound (by with_unfolding_all exact rfl) (by with_unfolding_all exact rfl) ?_); first | refine ⟨_, _, _, _, rfl, rfl, rfl, (by first | decide | assumption | omega), ?_⟩ | refine ⟨⟨_, _, _, _, _, _, _, _, _⟩, _, _, _, rfl, rfl, rfl, (by first | decide | assumption | omega), ?_⟩)
        | (with_reducible refine one_step (by with_unfolding_all exact rfl) (call_law boot_sound (by with_unfolding_all exact rfl) (by with_unfolding_all exact rfl) ?_); first | refine ⟨_, _, _, _, rfl, rfl, rfl, (by first | decide | assumption | omega), ?_⟩ | refine ⟨⟨_, _, _, _, _, _, _, _, _⟩, _, _, _, rfl, rfl, rfl, (by first | decide | assumption | omega), ?_⟩)
        | (with_reducible refine ops_step (by with_unfolding_all exact rfl) (call_law mark_sound (by with_unfolding_all exact rfl) (by with_unfolding_all exact rfl) ?_); first | refine ⟨_, _, _, rfl, rfl, rfl, (by first | decide | assumption | omega), ?_⟩ | refine ⟨⟨_, _, _, _, _, _, _, _, _⟩, _, _, rfl, rfl, rfl, (by first | decide | assumption | omega), ?_⟩)
        | (with_reducible refine one_step (by with_unfolding_all exact rfl) (call_law mark_sound (by with_unfolding_all exact rfl) (by with_unfolding_all exact rfl) ?_); first | refine ⟨_, _, _, rfl, rfl, rfl, (by first | decide | assumption | omega), ?_⟩ | refine ⟨⟨_, _, _, _, _, _, _, _, _⟩, _, _, rfl, rfl, rfl, (by first | decide | assumption | omega), ?_⟩)
        | (with_reducible refine ops_step (by with_unfolding_all exact rfl) (call_law root_sound (by with_unfolding_all exact rfl) (by with_unfolding_all exact rfl) ?_); first | refine ⟨_, _, _, rfl, rfl, rfl, (by first | decide | assumption | omega), ?_⟩ | refine ⟨⟨_, _, _, _, _, _, _, _, _⟩, _, _, rfl, rfl, rfl, (by first | decide | assumption | omega), ?_⟩)
        | (with_reducible refine one_step (by with_unfolding_all exact rfl) (call_law root_sound (by with_unfolding_all exact rfl) (by with_unfolding_all exact rfl) ?_); first | refine ⟨_, _, _, rfl, rfl, rfl, (by first | decide | assumption | omega), ?_⟩ | refine ⟨⟨_, _, _, _, _, _, _, _, _⟩, _, _, rfl, rfl, rfl, (by first | decide | assumption | omega), ?_⟩)
        | (with_reducible refine ops_step (by with_unfolding_all exact rfl) (call_law mine_sound (by with_unfolding_all exact rfl) (by with_unfolding_all exact rfl) ?_); first | refine ⟨_, _, _, rfl, rfl, rfl, (by first | decide | assumption | omega), ?_⟩ | refine ⟨⟨_, _, _, _, _, _, _, _, _⟩, _, _, rfl, rfl, rfl, (by first | decide | assumption | omega), ?_⟩)
        | (with_reducible refine one_step (by with_unfolding_all exact rfl) (call_law mine_sound (by with_unfolding_all exact rfl) (by with_unfolding_all exact rfl) ?_); first | refine ⟨_, _, _, rfl, rfl, rfl, (by first | decide | assumption | omega), ?_⟩ | refine ⟨⟨_, _, _, _, _, _, _, _, _⟩, _, _, rfl, rfl, rfl, (by first | decide | assumption | omega), ?_⟩)
        | (with_reducible refine ops_step (by with_unfolding_all exact rfl) (call_law alive_sound (by with_unfolding_all exact rfl) (by with_unfolding_all exact rfl) ?_); refine ⟨rfl, ?_⟩)
        | (with_reducible refine one_step (by with_unfolding_all exact rfl) (call_law alive_sound (by with_unfolding_all exact rfl) (by with_unfolding_all exact rfl) ?_); refine ⟨rfl, ?_⟩)
        | (with_reducible refine ops_step (by with_unfolding_all exact rfl) (call_law new_sound (by with_unfolding_all exact rfl) (by with_unfolding_all exact rfl) ?_); refine ⟨_, _, _, rfl, (fun hn => ?_), (fun hn => ?_)⟩ <;> try (exfalso; simp_all; done))
        | (with_reducible refine one_step (by with_unfolding_all exact rfl) (call_law new_sound (by with_unfolding_all exact rfl) (by with_unfolding_all exact rfl) ?_); refine ⟨_, _, _, rfl, (fun hn => ?_), (fun hn => ?_)⟩ <;> try (exfalso; simp_all; done))
        | with_reducible refine aft_go (by with_unfolding_all exact rfl) ?_
        | (with_reducible refine ops_step (by with_unfolding_all exact rfl) (look_go (by with_unfolding_all exact rfl) (fun g h => ?_) (fun h => ?_)) <;> (try (exfalso; simp at h; done)))
        | (with_reducible refine one_step (by with_unfolding_all exact rfl) (look_go (by with_unfolding_all exact rfl) (fun g h => ?_) (fun h => ?_)) <;> (try (exfalso; simp at h; done)))
        | with_reducible refine c_draw (by with_unfolding_all exact rfl) (by with_unfolding_all exact rfl) (by with_unfolding_all exact rfl) ?_
        | with_reducible refine draw_run (by with_unfolding_all exact rfl) (by with_unfolding_all exact rfl) (by with_unfolding_all first | exact trivial | (repeat' (first | exact rfl | refine And.intro ?_ ?_ | omega | (simp only [decide_eq_true_eq, decide_eq_false_iff_not] at *; omega) | (simp; done)))) ?_
        | with_reducible refine draw_done (by with_unfolding_all exact rfl) ?_
        | with_reducible refine draw_many (by with_unfolding_all exact rfl) (by with_unfolding_all exact rfl) ?_
        | with_reducible refine allD_one ?_
        | with_reducible refine one_step (by with_unfolding_all exact rfl) (stp_eff (by with_unfolding_all exact rfl) (by with_unfolding_all exact rfl) (by with_unfolding_all first | exact trivial | (repeat' (first | exact rfl | refine And.intro ?_ ?_ | omega | (simp only [decide_eq_true_eq, decide_eq_false_iff_not] at *; omega) | (simp; done)))) ?_)
        | with_reducible refine aftD_go (by with_unfolding_all exact rfl) (by with_unfolding_all exact rfl) (by with_unfolding_all first | exact trivial | (repeat' (first | exact rfl | refine And.intro ?_ ?_ | omega | (simp only [decide_eq_true_eq, decide_eq_false_iff_not] at *; omega) | (simp; done)))) ?_
        | with_reducible refine allD_more ?_ ?_
        | with_reducible refine c_t (by with_unfolding_all exact rfl) ?_
        | with_reducible refine c_f (by with_unfolding_all exact rfl) ?_
        | with_reducible refine c_ret ?_
        | with_reducible refine c_exit ?_
        | with_reducible refine c_skip ?_
        | with_reducible refine c_block ?_
        | with_reducible refine p_then_r ?_
        | with_reducible refine p_then_e ?_
        | with_reducible refine p_blk_n ?_
        | with_reducible refine p_blk_r ?_
        | with_reducible refine p_blk_hit (by with_unfolding_all exact rfl) ?_
        | with_reducible refine p_blk_miss (by with_unfolding_all exact rfl) ?_
        | with_reducible refine p_ret (by with_unfolding_all exact rfl) (by with_unfolding_all first | exact trivial | (repeat' (first | exact rfl | refine And.intro ?_ ?_ | omega | (simp only [decide_eq_true_eq, decide_eq_false_iff_not] at *; omega) | (simp; done)))) ?_
        | with_reducible refine p_ret_n (by with_unfolding_all exact rfl) (by with_unfolding_all first | exact trivial | (repeat' (first | exact rfl | refine And.intro ?_ ?_ | omega | (simp only [decide_eq_true_eq, decide_eq_false_iff_not] at *; omega) | (simp; done)))) ?_
        | with_reducible refine ops_lit (by with_unfolding_all exact rfl) (by with_unfolding_all exact rfl) (by with_unfolding_all exact rfl) (by with_unfolding_all exact rfl) (by with_unfolding_all first | exact trivial | (repeat' (first | exact rfl | refine And.intro ?_ ?_ | omega | (simp only [decide_eq_true_eq, decide_eq_false_iff_not] at *; omega) | (simp; done)))) ?_
        | with_reducible refine c_byt (by with_unfolding_all exact rfl) (by assumption) ?_
        | with_reducible refine c_byf (by with_unfolding_all exact rfl) (by assumption) ?_
        | with_reducible refine draw_lit (by with_unfolding_all exact rfl) (by with_unfolding_all exact rfl) (by with_unfolding_all exact rfl) (by with_unfolding_all exact rfl) (by with_unfolding_all exact rfl) (by with_unfolding_all first | exact trivial | (repeat' (first | exact rfl | refine And.intro ?_ ?_ | omega | (simp only [decide_eq_true_eq, decide_eq_false_iff_not] at *; omega) | (simp; done)))) ?_
        | with_reducible refine draw_by (r := true) (by with_unfolding_all exact rfl) (by with_unfolding_all exact rfl) (by assumption) (by with_unfolding_all exact rfl) ?_
        | with_reducible refine draw_by (r := false) (by with_unfolding_all exact rfl) (by with_unfolding_all exact rfl) (by assumption) (by with_unfolding_all exact rfl) ?_
        | with_reducible refine ops_by (r := true) (by with_unfolding_all exact rfl) (by assumption) (by with_unfolding_all exact rfl) ?_
        | with_reducible refine ops_by (r := false) (by with_unfolding_all exact rfl) (by assumption) (by with_unfolding_all exact rfl) ?_
        | (with_reducible refine c_split (by with_unfolding_all exact rfl) ?_ ?_ <;> (intro h; (try (exfalso; first | (simp at h; done) | (simp only [cond_true, cond_false] at h; simp at h; done); done)); (try rw [hearS_of h])))
        | (with_reducible refine draw_split (by with_unfolding_all exact rfl) (by with_unfolding_all exact rfl) (by with_unfolding_all exact rfl) (by with_unfolding_all exact rfl) ?_ ?_ <;> (intro h; (try (exfalso; first | (simp at h; done) | (simp only [cond_true, cond_false] at h; simp at h; done); done)); (try rw [hearS_of h])))
        | (with_reducible refine ops_split (by with_unfolding_all exact rfl) (by with_unfolding_all exact rfl) (by with_unfolding_all exact rfl) ?_ ?_ <;> (intro h; (try (exfalso; first | (simp at h; done) | (simp only [cond_true, cond_false] at h; simp at h; done); done)); (try rw [hearS_of h])))))
    all_goals try exact rfl
    all_goals (have hin : i < n := by simp only [decide_eq_true_eq] at *; omega)
    all_goals first
      | (refine again_go fun rw => ⟨[false, false, false, false, false, false, false, true, false, true, false, false, false, false, false, false, false, false, false, false, false, false, false, false, false, false, false, false, false, false, false, false, false, false, false, false, false, false, false, false, false, false, false, false, false, false, false, false, false, false, false, true, true, true], [some 0, none, none, none, none, none, some 6, some 7, some 8, some 9], _, _, _, rfl, trivial, m - 1, by omega, rw, i + 1, _, by omega, ?_, rfl⟩; rw [← hw]; rfl)
      | (refine again_go fun rw => ⟨[false, false, false, false, false, false, false, true, false, true, false, false, false, false, false, false, false, false, false, false, false, false, false, false, false, false, false, false, false, false, false, false, false, false, false, false, false, false, false, false, false, false, false, false, false, false, false, false, false, false, false, true, true, true], [some 0, none, none, none, none, none, some 6, some 11, some 8, some 12], _, _, _, rfl, trivial, m - 1, by omega, rw, i + 1, _, by omega, ?_, rfl⟩; rw [← hw]; rfl)
theorem law_nil (me to ig : Int) :
    evF Try.prog 60 3 [.int .i64 me, .agg [.int .i64 to, .int .i64 ig], .nils] [] (fun v _ => v = .bool true) := by
  ((with_reducible refine evF_go (by with_unfolding_all exact rfl) (by with_unfolding_all exact rfl) ?_); repeat' (first
      | with_reducible refine c_seq ?_
      | with_reducible refine p_then_n ?_
      | with_reducible refine p_nrm ?_
      | with_reducible refine c_region (by with_unfolding_all exact rfl) ?_
      | with_reducible refine ops_run (by with_unfolding_all exact rfl) (by with_unfolding_all exact rfl) (by with_unfolding_all first | exact trivial | (repeat' (first | exact rfl | refine And.intro ?_ ?_ | omega | (simp only [decide_eq_true_eq, decide_eq_false_iff_not] at *; omega) | (simp; done)))) ?_
      | with_reducible refine ops_nil ?_
      | (with_reducible refine ops_step (by with_unfolding_all exact rfl) (call_law hear_sound (by with_unfolding_all exact rfl) (by with_unfolding_all exact rfl) ?_); first | refine ⟨_, _, _, _, _, _, rfl, rfl, rfl, (by first | decide | assumption | omega), ?_⟩ | refine ⟨⟨_, _, _, _, _, _, _, _, _⟩, _, _, _, _, _, rfl, rfl, rfl, (by first | decide | assumption | omega), ?_⟩)
      | (with_reducible refine one_step (by with_unfolding_all exact rfl) (call_law hear_sound (by with_unfolding_all exact rfl) (by with_unfolding_all exact rfl) ?_); first | refine ⟨_, _, _, _, _, _, rfl, rfl, rfl, (by first | decide | assumption | omega), ?_⟩ | refine ⟨⟨_, _, _, _, _, _, _, _, _⟩, _, _, _, _, _, rfl, rfl, rfl, (by first | decide | assumption | omega), ?_⟩)
      | (with_reducible refine ops_step (by with_unfolding_all exact rfl) (call_law beat_sound (by with_unfolding_all exact rfl) (by with_unfolding_all exact rfl) ?_); first | refine ⟨_, _, _, rfl, rfl, rfl, (by first | decide | assumption | omega), ?_⟩ | refine ⟨⟨_, _, _, _, _, _, _, _, _⟩, _, _, rfl, rfl, rfl, (by first | decide | assumption | omega), ?_⟩)
      | (with_reducible refine one_step (by with_unfolding_all exact rfl) (call_law beat_sound (by with_unfolding_all exact rfl) (by with_unfolding_all exact rfl) ?_); first | refine ⟨_, _, _, rfl, rfl, rfl, (by first | decide | assumption | omega), ?_⟩ | refine ⟨⟨_, _, _, _, _, _, _, _, _⟩, _, _, rfl, rfl, rfl, (by first | decide | assumption | omega), ?_⟩)
      | (with_reducible refine ops_step (by with_unfolding_all exact rfl) (call_law issue_sound (by with_unfolding_all exact rfl) (by with_unfolding_all exact rfl) ?_); first | refine ⟨_, _, _, rfl, rfl, rfl, (by first | decide | assumption | omega), ?_⟩ | refine ⟨⟨_, _, _, _, _, _, _, _, _⟩, _, _, rfl, rfl, rfl, (by first | decide | assumption | omega), ?_⟩)
      | (with_reducible refine one_step (by with_unfolding_all exact rfl) (call_law issue_sound (by with_unfolding_all exact rfl) (by with_unfolding_all exact rfl) ?_); first | refine ⟨_, _, _, rfl, rfl, rfl, (by first | decide | assumption | omega), ?_⟩ | refine ⟨⟨_, _, _, _, _, _, _, _, _⟩, _, _, rfl, rfl, rfl, (by first | decide | assumption | omega), ?_⟩)
      | (with_reducible refine ops_step (by with_unfolding_all exact rfl) (call_law boot_sound (by with_unfolding_all exact rfl) (by with_unfolding_all exact rfl) ?_); first | refine ⟨_, _, _, _, rfl, rfl, rfl, (by first | decide | assumption | omega), ?_⟩ | refine ⟨⟨_, _, _, _, _, _, _, _, _⟩, _, _, _, rfl, rfl, rfl, (by first | decide | assumption | omega), ?_⟩)
      | (with_reducible refine one_step (by with_unfolding_all exact rfl) (call_law boot_sound (by with_unfolding_all exact rfl) (by with_unfolding_all exact rfl) ?_); first | refine ⟨_, _, _, _, rfl, rfl, rfl, (by first | decide | assumption | omega), ?_⟩ | refine ⟨⟨_, _, _, _, _, _, _, _, _⟩, _, _, _, rfl, rfl, rfl, (by first | decide | assumption | omega), ?_⟩)
      | (with_reducible refine ops_step (by with_unfolding_all exact rfl) (call_law mark_sound (by with_unfolding_all exact rfl) (by with_unfolding_all exact rfl) ?_); first | refine ⟨_, _, _, rfl, rfl, rfl, (by first | decide | assumption | omega), ?_⟩ | refine ⟨⟨_, _, _, _, _, _, _, _, _⟩, _, _, rfl, rfl, rfl, (by first | decide | assumption | omega), ?_⟩)
      | (with_reducible refine one_step (by with_unfolding_all exact rfl) (call_law mark_sound (by with_unfolding_all exact rfl) (by with_unfolding_all exact rfl) ?_); first | refine ⟨_, _, _, rfl, rfl, rfl, (by first | decide | assumption | omega), ?_⟩ | refine ⟨⟨_, _, _, _, _, _, _, _, _⟩, _, _, rfl, rfl, rfl, (by first | decide | assumption | omega), ?_⟩)
      | (with_reducible refine ops_step (by with_unfolding_all exact rfl) (call_law root_sound (by with_unfolding_all exact rfl) (by with_unfolding_all exact rfl) ?_); first | refine ⟨_, _, _, rfl, rfl, rfl, (by first | decide | assumption | omega), ?_⟩ | refine ⟨⟨_, _, _, _, _, _, _, _, _⟩, _, _, rfl, rfl, rfl, (by first | decide | assumption | omega), ?_⟩)
      | (with_reducible refine one_step (by with_unfolding_all exact rfl) (call_law root_sound (by with_unfolding_all exact rfl) (by with_unfolding_all exact rfl) ?_); first | refine ⟨_, _, _, rfl, rfl, rfl, (by first | decide | assumption | omega), ?_⟩ | refine ⟨⟨_, _, _, _, _, _, _, _, _⟩, _, _, rfl, rfl, rfl, (by first | decide | assumption | omega), ?_⟩)
      | (with_reducible refine ops_step (by with_unfolding_all exact rfl) (call_law mine_sound (by with_unfolding_all exact rfl) (by with_unfolding_all exact rfl) ?_); first | refine ⟨_, _, _, rfl, rfl, rfl, (by first | decide | assumption | omega), ?_⟩ | refine ⟨⟨_, _, _, _, _, _, _, _, _⟩, _, _, rfl, rfl, rfl, (by first | decide | assumption | omega), ?_⟩)
      | (with_reducible refine one_step (by with_unfolding_all exact rfl) (call_law mine_sound (by with_unfolding_all exact rfl) (by with_unfolding_all exact rfl) ?_); first | refine ⟨_, _, _, rfl, rfl, rfl, (by first | decide | assumption | omega), ?_⟩ | refine ⟨⟨_, _, _, _, _, _, _, _, _⟩, _, _, rfl, rfl, rfl, (by first | decide | assumption | omega), ?_⟩)
      | (with_reducible refine ops_step (by with_unfolding_all exact rfl) (call_law alive_sound (by with_unfolding_all exact rfl) (by with_unfolding_all exact rfl) ?_); refine ⟨rfl, ?_⟩)
      | (with_reducible refine one_step (by with_unfolding_all exact rfl) (call_law alive_sound (by with_unfolding_all exact rfl) (by with_unfolding_all exact rfl) ?_); refine ⟨rfl, ?_⟩)
      | (with_reducible refine ops_step (by with_unfolding_all exact rfl) (call_law new_sound (by with_unfolding_all exact rfl) (by with_unfolding_all exact rfl) ?_); refine ⟨_, _, _, rfl, (fun hn => ?_), (fun hn => ?_)⟩ <;> try (exfalso; simp_all; done))
      | (with_reducible refine one_step (by with_unfolding_all exact rfl) (call_law new_sound (by with_unfolding_all exact rfl) (by with_unfolding_all exact rfl) ?_); refine ⟨_, _, _, rfl, (fun hn => ?_), (fun hn => ?_)⟩ <;> try (exfalso; simp_all; done))
      | with_reducible refine aft_go (by with_unfolding_all exact rfl) ?_
      | (with_reducible refine ops_step (by with_unfolding_all exact rfl) (look_go (by with_unfolding_all exact rfl) (fun g h => ?_) (fun h => ?_)) <;> (try (exfalso; simp at h; done)))
      | (with_reducible refine one_step (by with_unfolding_all exact rfl) (look_go (by with_unfolding_all exact rfl) (fun g h => ?_) (fun h => ?_)) <;> (try (exfalso; simp at h; done)))
      | with_reducible refine c_draw (by with_unfolding_all exact rfl) (by with_unfolding_all exact rfl) (by with_unfolding_all exact rfl) ?_
      | with_reducible refine draw_run (by with_unfolding_all exact rfl) (by with_unfolding_all exact rfl) (by with_unfolding_all first | exact trivial | (repeat' (first | exact rfl | refine And.intro ?_ ?_ | omega | (simp only [decide_eq_true_eq, decide_eq_false_iff_not] at *; omega) | (simp; done)))) ?_
      | with_reducible refine draw_done (by with_unfolding_all exact rfl) ?_
      | with_reducible refine draw_many (by with_unfolding_all exact rfl) (by with_unfolding_all exact rfl) ?_
      | with_reducible refine allD_one ?_
      | with_reducible refine one_step (by with_unfolding_all exact rfl) (stp_eff (by with_unfolding_all exact rfl) (by with_unfolding_all exact rfl) (by with_unfolding_all first | exact trivial | (repeat' (first | exact rfl | refine And.intro ?_ ?_ | omega | (simp only [decide_eq_true_eq, decide_eq_false_iff_not] at *; omega) | (simp; done)))) ?_)
      | with_reducible refine aftD_go (by with_unfolding_all exact rfl) (by with_unfolding_all exact rfl) (by with_unfolding_all first | exact trivial | (repeat' (first | exact rfl | refine And.intro ?_ ?_ | omega | (simp only [decide_eq_true_eq, decide_eq_false_iff_not] at *; omega) | (simp; done)))) ?_
      | with_reducible refine allD_more ?_ ?_
      | with_reducible refine c_t (by with_unfolding_all exact rfl) ?_
      | with_reducible refine c_f (by with_unfolding_all exact rfl) ?_
      | with_reducible refine c_ret ?_
      | with_reducible refine c_exit ?_
      | with_reducible refine c_skip ?_
      | with_reducible refine c_block ?_
      | with_reducible refine p_then_r ?_
      | with_reducible refine p_then_e ?_
      | with_reducible refine p_blk_n ?_
      | with_reducible refine p_blk_r ?_
      | with_reducible refine p_blk_hit (by with_unfolding_all exact rfl) ?_
      | with_reducible refine p_blk_miss (by with_unfolding_all exact rfl) ?_
      | with_reducible refine p_ret (by with_unfolding_all exact rfl) (by with_unfolding_all first | exact trivial | (repeat' (first | exact rfl | refine And.intro ?_ ?_ | omega | (simp only [decide_eq_true_eq, decide_eq_false_iff_not] at *; omega) | (simp; done)))) ?_
      | with_reducible refine p_ret_n (by with_unfolding_all exact rfl) (by with_unfolding_all first | exact trivial | (repeat' (first | exact rfl | refine And.intro ?_ ?_ | omega | (simp only [decide_eq_true_eq, decide_eq_false_iff_not] at *; omega) | (simp; done)))) ?_
      | with_reducible refine ops_lit (by with_unfolding_all exact rfl) (by with_unfolding_all exact rfl) (by with_unfolding_all exact rfl) (by with_unfolding_all exact rfl) (by with_unfolding_all first | exact trivial | (repeat' (first | exact rfl | refine And.intro ?_ ?_ | omega | (simp only [decide_eq_true_eq, decide_eq_false_iff_not] at *; omega) | (simp; done)))) ?_
      | with_reducible refine c_byt (by with_unfolding_all exact rfl) (by assumption) ?_
      | with_reducible refine c_byf (by with_unfolding_all exact rfl) (by assumption) ?_
      | with_reducible refine draw_lit (by with_unfolding_all exact rfl) (by with_unfolding_all exact rfl) (by with_unfolding_all exact rfl) (by with_unfolding_all exact rfl) (by with_unfolding_all exact rfl) (by with_unfolding_all first | exact trivial | (repeat' (first | exact rfl | refine And.intro ?_ ?_ | omega | (simp only [decide_eq_true_eq, decide_eq_false_iff_not] at *; omega) | (simp; done)))) ?_
      | with_reducible refine draw_by (r := true) (by with_unfolding_all exact rfl) (by with_unfolding_all exact rfl) (by assumption) (by with_unfolding_all exact rfl) ?_
      | with_reducible refine draw_by (r := false) (by with_unfolding_all exact rfl) (by with_unfolding_all exact rfl) (by assumption) (by with_unfolding_all exact rfl) ?_
      | with_reducible refine ops_by (r := true) (by with_unfolding_all exact rfl) (by assumption) (by with_unfolding_all exact rfl) ?_
      | with_reducible refine ops_by (r := false) (by with_unfolding_all exact rfl) (by assumption) (by with_unfolding_all exact rfl) ?_
      | with_reducible refine c_turn ?_
      | (with_reducible refine c_split (by with_unfolding_all exact rfl) ?_ ?_ <;> (intro h; (try (exfalso; first | (simp at h; done) | (simp only [cond_true, cond_false] at h; simp at h; done); done)); (try rw [hearS_of h])))
      | (with_reducible refine draw_split (by with_unfolding_all exact rfl) (by with_unfolding_all exact rfl) (by with_unfolding_all exact rfl) (by with_unfolding_all exact rfl) ?_ ?_ <;> (intro h; (try (exfalso; first | (simp at h; done) | (simp only [cond_true, cond_false] at h; simp at h; done); done)); (try rw [hearS_of h])))
      | (with_reducible refine ops_split (by with_unfolding_all exact rfl) (by with_unfolding_all exact rfl) (by with_unfolding_all exact rfl) ?_ ?_ <;> (intro h; (try (exfalso; first | (simp at h; done) | (simp only [cond_true, cond_false] at h; simp at h; done); done)); (try rw [hearS_of h])))))
  all_goals exact rfl
end Go.Proofs.Ytlejlgadonogeaa
