/-
  Contracts of the functions that the statements of layers 8 and 9 lean on: is a bit one of a set; are two rows the same; the lowest bit.
-/
import Derived.Test.YtonohiifmepjfaaDoorEv23
import Derived.Test.YtonohiifmepjfaaDoorP1
import Derived.Test.YtonohiifmepjfaaDoorChecked
namespace Go.Proofs.YtonohiifmepjfaaDoor
open Go Go.RowKit Ev
set_option maxHeartbeats 4000000
set_option maxRecDepth 100000

theorem hNG : ∀ (f : Nat) (fn : Func), Tryd.prog.funcs[f]? = some fn → (fn.name == "runtime.NumGoroutine") = false := by
  have h : Tryd.prog.funcs.toList.all (fun fn => !(fn.name == "runtime.NumGoroutine")) = true := by kernel_rfl
  intro f fn hf
  have := List.all_eq_true.1 h fn (by
    have := Array.mem_of_getElem? hf
    simpa using this)
  simpa using this
theorem hmix : Tryd.prog.follows .mixedOrders = true := by kernel_rfl

/-- The library's table. -/
def tabL : List Int := [0, 1, 56, 2, 57, 49, 28, 3, 61, 58, 42, 50, 38, 29, 17, 4, 62, 47, 59, 36, 45, 43, 51, 22, 53, 39, 33, 30, 24, 18, 12, 5, 63, 55, 48, 27, 60, 41, 37, 16, 46, 35, 44, 21, 52, 32, 23, 11, 54, 26, 40, 15, 34, 20, 31, 10, 25, 14, 19, 9, 13, 8, 7, 6]
def tabF (i : Nat) : Int := tabL.getD i 0
def tabO : Ob := .mem false 1000000 [] 64 [.int .u8 tabF]

theorem wrapu (x : Int) : IntKind.u64.wrap x = x % 18446744073709551616 := by
  simp [IntKind.wrap, IntKind.bits, IntKind.signed]
theorem wrapu_nn (x : Int) : 0 ≤ IntKind.u64.wrap x := by rw [wrapu]; omega
theorem wrap_nat {n : Nat} (h : n < 2 ^ 64) : IntKind.u64.wrap (n : Int) = n := by
  rw [wrapu]; omega
theorem bits_and {a b : Nat} (ha : a < 2 ^ 64) (hb : b < 2 ^ 64) : bitsI .and .u64 (a : Int) (b : Int) = ((a &&& b : Nat) : Int) := by
  have h : (BitVec.ofInt 64 (a : Int) &&& BitVec.ofInt 64 (b : Int)).toNat = a &&& b := by
    rw [BitVec.toNat_and, BitVec.ofInt_natCast, BitVec.ofInt_natCast, BitVec.toNat_ofNat, BitVec.toNat_ofNat, Nat.mod_eq_of_lt ha, Nat.mod_eq_of_lt hb]
  show IntKind.u64.wrap ((BitVec.ofInt 64 (a : Int) &&& BitVec.ofInt 64 (b : Int)).toNat : Int) = _
  rw [h]
  exact wrap_nat (Nat.lt_of_le_of_lt Nat.and_le_left ha)
def inB (s i : Int) : Bool := decide (i ≥ 0) && decide (i < 64) && ((s.fdiv (2 ^ (min (IntKind.u64.wrap i).toNat 64))).tmod 2 == 1)

theorem set_same {H : List Ob} {l : Nat} {o : Ob} (h : H[l]? = some o) : H.set l o = H := by
  obtain ⟨h1, h2⟩ := List.getElem?_eq_some_iff.1 h
  subst h2
  exact List.set_getElem_self h1

theorem in_ev (s i : Int) : evF Tryd.prog 40 11 [.int .u64 s, .int .i64 i] [] (gcS 0 fun v H => v = .bool (inB s i) ∧ H = []) := by
  have hw := wrapu_nn i
  ((with_reducible refine evF_go (by with_unfolding_all exact rfl) (by with_unfolding_all exact rfl) ?_); repeat' (first
      | with_reducible refine c_seq ?_
      | with_reducible refine p_then_n ?_
      | with_reducible refine p_nrm ?_
      | with_reducible refine c_region (by with_unfolding_all exact rfl) ?_
      | with_reducible refine ops_run (by with_unfolding_all exact rfl) (by with_unfolding_all exact rfl) (by with_unfolding_all first | exact trivial | (simp only [AllP, addC, List.cons_append, List.nil_append]; repeat' (first | assumption | exact rfl | refine And.intro ?_ ?_ | omega | (simp only [decide_eq_true_eq, decide_eq_false_iff_not] at *; omega) | (simp; done))); done) ?_
      | with_reducible refine ops_nil ?_
      | with_reducible refine ops_step (by with_unfolding_all exact rfl) (call_text (by with_unfolding_all exact rfl) (by with_unfolding_all exact rfl) (by with_unfolding_all exact rfl) ?_)
      | with_reducible refine one_step (by with_unfolding_all exact rfl) (call_text (by with_unfolding_all exact rfl) (by with_unfolding_all exact rfl) (by with_unfolding_all exact rfl) ?_)
      | with_reducible refine aft_go (by with_unfolding_all exact rfl) ?_
      | (with_reducible refine ops_step (by with_unfolding_all exact rfl) (look_go (by with_unfolding_all exact rfl) (fun g h => ?_) (fun h => ?_)) <;> (try (exfalso; simp at h; done)))
      | (with_reducible refine one_step (by with_unfolding_all exact rfl) (look_go (by with_unfolding_all exact rfl) (fun g h => ?_) (fun h => ?_)) <;> (try (exfalso; simp at h; done)))
      | with_reducible refine c_draw (by with_unfolding_all exact rfl) (by with_unfolding_all exact rfl) (by with_unfolding_all exact rfl) ?_
      | with_reducible refine draw_run (by with_unfolding_all exact rfl) (by with_unfolding_all exact rfl) (by with_unfolding_all first | exact trivial | (simp only [AllP, addC, List.cons_append, List.nil_append]; repeat' (first | assumption | exact rfl | refine And.intro ?_ ?_ | omega | (simp only [decide_eq_true_eq, decide_eq_false_iff_not] at *; omega) | (simp; done))); done) ?_
      | with_reducible refine draw_done (by with_unfolding_all exact rfl) ?_
      | with_reducible refine draw_many (by with_unfolding_all exact rfl) (by with_unfolding_all exact rfl) ?_
      | with_reducible refine allD_one ?_
      | with_reducible refine one_step (by with_unfolding_all exact rfl) (stp_eff (by with_unfolding_all exact rfl) (by with_unfolding_all exact rfl) (by with_unfolding_all first | exact trivial | (simp only [AllP, addC, List.cons_append, List.nil_append]; repeat' (first | assumption | exact rfl | refine And.intro ?_ ?_ | omega | (simp only [decide_eq_true_eq, decide_eq_false_iff_not] at *; omega) | (simp; done))); done) ?_)
      | with_reducible refine aftD_go (by with_unfolding_all exact rfl) (by with_unfolding_all exact rfl) (by with_unfolding_all first | exact trivial | (simp only [AllP, addC, List.cons_append, List.nil_append]; repeat' (first | assumption | exact rfl | refine And.intro ?_ ?_ | omega | (simp only [decide_eq_true_eq, decide_eq_false_iff_not] at *; omega) | (simp; done))); done) ?_
      | with_reducible refine allD_more ?_ ?_
      | with_reducible refine ops_step (by with_unfolding_all exact rfl) (app_go (by with_unfolding_all exact rfl) (by with_unfolding_all first | exact trivial | (simp only [AllP, addC, List.cons_append, List.nil_append]; repeat' (first | assumption | exact rfl | refine And.intro ?_ ?_ | omega | (simp only [decide_eq_true_eq, decide_eq_false_iff_not] at *; omega) | (simp; done))); done) (fun p cap hcap => ?_))
      | with_reducible refine ops_step (by with_unfolding_all exact rfl) (mk_go (by with_unfolding_all exact rfl) (by with_unfolding_all first | exact trivial | (simp only [AllP, addC, List.cons_append, List.nil_append]; repeat' (first | assumption | exact rfl | refine And.intro ?_ ?_ | omega | (simp only [decide_eq_true_eq, decide_eq_false_iff_not] at *; omega) | (simp; done))); done) (fun p => ?_))
      | with_reducible refine ops_step (by with_unfolding_all exact rfl) (yld_go (by with_unfolding_all exact rfl) ?_)
      | with_reducible refine one_step (by with_unfolding_all exact rfl) (app_go (by with_unfolding_all exact rfl) (by with_unfolding_all first | exact trivial | (simp only [AllP, addC, List.cons_append, List.nil_append]; repeat' (first | assumption | exact rfl | refine And.intro ?_ ?_ | omega | (simp only [decide_eq_true_eq, decide_eq_false_iff_not] at *; omega) | (simp; done))); done) (fun p cap hcap => ?_))
      | with_reducible refine one_step (by with_unfolding_all exact rfl) (mk_go (by with_unfolding_all exact rfl) (by with_unfolding_all first | exact trivial | (simp only [AllP, addC, List.cons_append, List.nil_append]; repeat' (first | assumption | exact rfl | refine And.intro ?_ ?_ | omega | (simp only [decide_eq_true_eq, decide_eq_false_iff_not] at *; omega) | (simp; done))); done) (fun p => ?_))
      | with_reducible refine one_step (by with_unfolding_all exact rfl) (yld_go (by with_unfolding_all exact rfl) ?_)
      | with_reducible refine c_range (by with_unfolding_all exact rfl) (by with_unfolding_all exact rfl) (by with_unfolding_all exact rfl) (by with_unfolding_all exact rfl) (by with_unfolding_all exact rfl) ?_
      | with_reducible refine c_range_in (by with_unfolding_all exact rfl) (by with_unfolding_all exact rfl) (by with_unfolding_all exact rfl) (by with_unfolding_all exact rfl) (by with_unfolding_all exact rfl) (by with_unfolding_all exact rfl) ?_
      | with_reducible refine roundA_go (by with_unfolding_all exact rfl) (by with_unfolding_all exact rfl) ?_
      | with_reducible refine roundB_n (by with_unfolding_all exact rfl) ?_
      | with_reducible refine roundB_r (by with_unfolding_all exact rfl) ?_
      | with_reducible refine roundB_e (by with_unfolding_all exact rfl) ?_
      | with_reducible refine aftR_n (by with_unfolding_all exact rfl) (by with_unfolding_all exact rfl) ?_
      | with_reducible refine aftR_c (by with_unfolding_all exact rfl) (by with_unfolding_all exact rfl) ?_
      | with_reducible refine c_t (by with_unfolding_all exact rfl) ?_
      | with_reducible refine c_f (by with_unfolding_all exact rfl) ?_
      | with_reducible refine c_ret ?_
      | with_reducible refine c_exit ?_
      | with_reducible refine c_skip ?_
      | with_reducible refine c_block ?_
      | with_reducible refine p_then_r ?_
      | with_reducible refine p_then_e ?_
      | with_reducible refine p_blk_n ?_
      | with_reducible refine p_blk_r ?_
      | with_reducible refine p_blk_hit (by with_unfolding_all exact rfl) ?_
      | with_reducible refine p_blk_miss (by with_unfolding_all exact rfl) ?_
      | with_reducible refine p_ret (by with_unfolding_all exact rfl) (by with_unfolding_all first | exact trivial | (simp only [AllP, addC, List.cons_append, List.nil_append]; repeat' (first | assumption | exact rfl | refine And.intro ?_ ?_ | omega | (simp only [decide_eq_true_eq, decide_eq_false_iff_not] at *; omega) | (simp; done))); done) ?_
      | with_reducible refine p_ret_n (by with_unfolding_all exact rfl) (by with_unfolding_all first | exact trivial | (simp only [AllP, addC, List.cons_append, List.nil_append]; repeat' (first | assumption | exact rfl | refine And.intro ?_ ?_ | omega | (simp only [decide_eq_true_eq, decide_eq_false_iff_not] at *; omega) | (simp; done))); done) ?_
      | with_reducible refine ops_lit (by with_unfolding_all exact rfl) (by with_unfolding_all exact rfl) (by with_unfolding_all exact rfl) (by with_unfolding_all exact rfl) (by with_unfolding_all first | exact trivial | (simp only [AllP, addC, List.cons_append, List.nil_append]; repeat' (first | assumption | exact rfl | refine And.intro ?_ ?_ | omega | (simp only [decide_eq_true_eq, decide_eq_false_iff_not] at *; omega) | (simp; done))); done) ?_
      | with_reducible refine c_byt (by with_unfolding_all exact rfl) (by assumption) ?_
      | with_reducible refine c_byf (by with_unfolding_all exact rfl) (by assumption) ?_
      | with_reducible refine draw_lit (by with_unfolding_all exact rfl) (by with_unfolding_all exact rfl) (by with_unfolding_all exact rfl) (by with_unfolding_all exact rfl) (by with_unfolding_all exact rfl) (by with_unfolding_all first | exact trivial | (simp only [AllP, addC, List.cons_append, List.nil_append]; repeat' (first | assumption | exact rfl | refine And.intro ?_ ?_ | omega | (simp only [decide_eq_true_eq, decide_eq_false_iff_not] at *; omega) | (simp; done))); done) ?_
      | with_reducible refine draw_by (r := true) (by with_unfolding_all exact rfl) (by with_unfolding_all exact rfl) (by assumption) (by with_unfolding_all exact rfl) ?_
      | with_reducible refine draw_by (r := false) (by with_unfolding_all exact rfl) (by with_unfolding_all exact rfl) (by assumption) (by with_unfolding_all exact rfl) ?_
      | with_reducible refine ops_by (r := true) (by with_unfolding_all exact rfl) (by assumption) (by with_unfolding_all exact rfl) ?_
      | with_reducible refine ops_by (r := false) (by with_unfolding_all exact rfl) (by assumption) (by with_unfolding_all exact rfl) ?_
      | (with_reducible refine c_split (by with_unfolding_all exact rfl) ?_ ?_ <;> (intro h; try (exfalso; simp at h; done)))
      | (with_reducible refine draw_split (by with_unfolding_all exact rfl) (by with_unfolding_all exact rfl) (by with_unfolding_all exact rfl) (by with_unfolding_all exact rfl) ?_ ?_ <;> (intro h; try (exfalso; simp at h; done)))
      | (with_reducible refine ops_split (by with_unfolding_all exact rfl) (by with_unfolding_all exact rfl) (by with_unfolding_all exact rfl) ?_ ?_ <;> (intro h; try (exfalso; simp at h; done)))
      | with_reducible refine ops_run (by with_unfolding_all exact rfl) (by with_unfolding_all exact rfl) ?_ ?_
      | with_reducible refine ops_lit (by with_unfolding_all exact rfl) (by with_unfolding_all exact rfl) (by with_unfolding_all exact rfl) (by with_unfolding_all exact rfl) ?_ ?_
      | with_reducible refine draw_run (by with_unfolding_all exact rfl) (by with_unfolding_all exact rfl) ?_ ?_
      | with_reducible refine draw_lit (by with_unfolding_all exact rfl) (by with_unfolding_all exact rfl) (by with_unfolding_all exact rfl) (by with_unfolding_all exact rfl) (by with_unfolding_all exact rfl) ?_ ?_
      | with_reducible refine p_ret (by with_unfolding_all exact rfl) ?_ ?_))
  all_goals (with_reducible refine gcS_go [] (by with_unfolding_all exact rfl) (by with_unfolding_all exact trivial) ?_)
  all_goals (refine ⟨?_, rfl⟩; (try simp only [cond_true, cond_false] at *); first | rfl | (simp only [inB, *, Bool.true_and, Bool.false_and, Bool.and_false]; done) | (simp only [inB, *, Bool.true_and, Bool.false_and, Bool.and_false]; rfl))
theorem in_sound : Sound Tryd.prog 11 fun args H k => ∃ s i, args = [.int .u64 s, .int .i64 i] ∧ k (.bool (inB s i)) H := by
  refine sound_plain hNG hmix ?_
  rintro args H k ⟨s, i, rfl, hk⟩
  exact ⟨40, _, in_ev s i, fun r => rfl, fun r => rfl, rfl, hk⟩

/-- Where the table has the lowest bit's number. -/
def tzI (m : Nat) : Int := (IntKind.u64.wrap ((m : Int) * 285870213051353865)).fdiv (2 ^ (min (58 : Int).toNat IntKind.u64.bits))
theorem tz_tab : ∀ k : Nat, k < 64 → 0 ≤ tzI (2 ^ k) ∧ tzI (2 ^ k) < 64 ∧ IntKind.i64.wrap (tabF (tzI (2 ^ k)).toNat) = (k : Int) := by
  have h : (List.range 64).all (fun k : Nat => decide (0 ≤ tzI (2 ^ k) ∧ tzI (2 ^ k) < 64 ∧ IntKind.i64.wrap (tabF (tzI (2 ^ k)).toNat) = (k : Int))) = true := by kernel_rfl
  intro k hk
  simpa using List.all_eq_true.1 h k (by simpa using hk)
theorem tz_ev (s k : Nat) (h0 : 0 < s) (hs : s < 2 ^ 64) (hk : k < 64) (h2 : s &&& (2 ^ 64 - s) = 2 ^ k) : evF Tryd.prog 40 28 [.int .u64 (s : Int)] [tabO] (gcS 1 fun v H => v = .int .i64 (k : Int) ∧ H = [tabO]) := by
  have hb : ((s : Int) == 0) = false := by simp; omega
  have hneg : IntKind.u64.wrap (0 - (s : Int)) = ((2 ^ 64 - s : Nat) : Int) := by rw [wrapu]; omega
  have hm : tzI (2 ^ k) = (IntKind.u64.wrap (bitsI .and .u64 (s : Int) (IntKind.u64.wrap (0 - (s : Int))) * 285870213051353865)).fdiv (2 ^ (min (58 : Int).toNat IntKind.u64.bits)) := by
    rw [hneg, bits_and hs (by omega), h2]; rfl
  obtain ⟨t1, t2, t3⟩ := tz_tab k hk
  rw [hm] at t1 t2 t3
  clear hneg hm h2
  have t4 : ((IntKind.u64.wrap (bitsI .and .u64 (s : Int) (IntKind.u64.wrap (0 - (s : Int))) * 285870213051353865)).fdiv (2 ^ (min (58 : Int).toNat IntKind.u64.bits))).toNat < 64 := by omega
  ((with_reducible refine evF_go (by with_unfolding_all exact rfl) (by with_unfolding_all exact rfl) ?_); repeat' (first
      | with_reducible refine c_seq ?_
      | with_reducible refine p_then_n ?_
      | with_reducible refine p_nrm ?_
      | with_reducible refine c_region (by with_unfolding_all exact rfl) ?_
      | with_reducible refine ops_run (by with_unfolding_all exact rfl) (by with_unfolding_all exact rfl) (by with_unfolding_all first | exact trivial | (simp only [AllP, addC, List.cons_append, List.nil_append]; repeat' (first | assumption | exact rfl | refine And.intro ?_ ?_ | omega | (simp only [decide_eq_true_eq, decide_eq_false_iff_not] at *; omega) | (simp; done))); done) ?_
      | with_reducible refine ops_nil ?_
      | with_reducible refine ops_step (by with_unfolding_all exact rfl) (call_text (by with_unfolding_all exact rfl) (by with_unfolding_all exact rfl) (by with_unfolding_all exact rfl) ?_)
      | with_reducible refine one_step (by with_unfolding_all exact rfl) (call_text (by with_unfolding_all exact rfl) (by with_unfolding_all exact rfl) (by with_unfolding_all exact rfl) ?_)
      | with_reducible refine aft_go (by with_unfolding_all exact rfl) ?_
      | (with_reducible refine ops_step (by with_unfolding_all exact rfl) (look_go (by with_unfolding_all exact rfl) (fun g h => ?_) (fun h => ?_)) <;> (try (exfalso; simp at h; done)))
      | (with_reducible refine one_step (by with_unfolding_all exact rfl) (look_go (by with_unfolding_all exact rfl) (fun g h => ?_) (fun h => ?_)) <;> (try (exfalso; simp at h; done)))
      | with_reducible refine c_draw (by with_unfolding_all exact rfl) (by with_unfolding_all exact rfl) (by with_unfolding_all exact rfl) ?_
      | with_reducible refine draw_run (by with_unfolding_all exact rfl) (by with_unfolding_all exact rfl) (by with_unfolding_all first | exact trivial | (simp only [AllP, addC, List.cons_append, List.nil_append]; repeat' (first | assumption | exact rfl | refine And.intro ?_ ?_ | omega | (simp only [decide_eq_true_eq, decide_eq_false_iff_not] at *; omega) | (simp; done))); done) ?_
      | with_reducible refine draw_done (by with_unfolding_all exact rfl) ?_
      | with_reducible refine draw_many (by with_unfolding_all exact rfl) (by with_unfolding_all exact rfl) ?_
      | with_reducible refine allD_one ?_
      | with_reducible refine one_step (by with_unfolding_all exact rfl) (stp_eff (by with_unfolding_all exact rfl) (by with_unfolding_all exact rfl) (by with_unfolding_all first | exact trivial | (simp only [AllP, addC, List.cons_append, List.nil_append]; repeat' (first | assumption | exact rfl | refine And.intro ?_ ?_ | omega | (simp only [decide_eq_true_eq, decide_eq_false_iff_not] at *; omega) | (simp; done))); done) ?_)
      | with_reducible refine aftD_go (by with_unfolding_all exact rfl) (by with_unfolding_all exact rfl) (by with_unfolding_all first | exact trivial | (simp only [AllP, addC, List.cons_append, List.nil_append]; repeat' (first | assumption | exact rfl | refine And.intro ?_ ?_ | omega | (simp only [decide_eq_true_eq, decide_eq_false_iff_not] at *; omega) | (simp; done))); done) ?_
      | with_reducible refine allD_more ?_ ?_
      | with_reducible refine ops_step (by with_unfolding_all exact rfl) (app_go (by with_unfolding_all exact rfl) (by with_unfolding_all first | exact trivial | (simp only [AllP, addC, List.cons_append, List.nil_append]; repeat' (first | assumption | exact rfl | refine And.intro ?_ ?_ | omega | (simp only [decide_eq_true_eq, decide_eq_false_iff_not] at *; omega) | (simp; done))); done) (fun p cap hcap => ?_))
      | with_reducible refine ops_step (by with_unfolding_all exact rfl) (mk_go (by with_unfolding_all exact rfl) (by with_unfolding_all first | exact trivial | (simp only [AllP, addC, List.cons_append, List.nil_append]; repeat' (first | assumption | exact rfl | refine And.intro ?_ ?_ | omega | (simp only [decide_eq_true_eq, decide_eq_false_iff_not] at *; omega) | (simp; done))); done) (fun p => ?_))
      | with_reducible refine ops_step (by with_unfolding_all exact rfl) (yld_go (by with_unfolding_all exact rfl) ?_)
      | with_reducible refine one_step (by with_unfolding_all exact rfl) (app_go (by with_unfolding_all exact rfl) (by with_unfolding_all first | exact trivial | (simp only [AllP, addC, List.cons_append, List.nil_append]; repeat' (first | assumption | exact rfl | refine And.intro ?_ ?_ | omega | (simp only [decide_eq_true_eq, decide_eq_false_iff_not] at *; omega) | (simp; done))); done) (fun p cap hcap => ?_))
      | with_reducible refine one_step (by with_unfolding_all exact rfl) (mk_go (by with_unfolding_all exact rfl) (by with_unfolding_all first | exact trivial | (simp only [AllP, addC, List.cons_append, List.nil_append]; repeat' (first | assumption | exact rfl | refine And.intro ?_ ?_ | omega | (simp only [decide_eq_true_eq, decide_eq_false_iff_not] at *; omega) | (simp; done))); done) (fun p => ?_))
      | with_reducible refine one_step (by with_unfolding_all exact rfl) (yld_go (by with_unfolding_all exact rfl) ?_)
      | with_reducible refine c_range (by with_unfolding_all exact rfl) (by with_unfolding_all exact rfl) (by with_unfolding_all exact rfl) (by with_unfolding_all exact rfl) (by with_unfolding_all exact rfl) ?_
      | with_reducible refine c_range_in (by with_unfolding_all exact rfl) (by with_unfolding_all exact rfl) (by with_unfolding_all exact rfl) (by with_unfolding_all exact rfl) (by with_unfolding_all exact rfl) (by with_unfolding_all exact rfl) ?_
      | with_reducible refine roundA_go (by with_unfolding_all exact rfl) (by with_unfolding_all exact rfl) ?_
      | with_reducible refine roundB_n (by with_unfolding_all exact rfl) ?_
      | with_reducible refine roundB_r (by with_unfolding_all exact rfl) ?_
      | with_reducible refine roundB_e (by with_unfolding_all exact rfl) ?_
      | with_reducible refine aftR_n (by with_unfolding_all exact rfl) (by with_unfolding_all exact rfl) ?_
      | with_reducible refine aftR_c (by with_unfolding_all exact rfl) (by with_unfolding_all exact rfl) ?_
      | with_reducible refine c_t (by with_unfolding_all exact rfl) ?_
      | with_reducible refine c_f (by with_unfolding_all exact rfl) ?_
      | with_reducible refine c_ret ?_
      | with_reducible refine c_exit ?_
      | with_reducible refine c_skip ?_
      | with_reducible refine c_block ?_
      | with_reducible refine p_then_r ?_
      | with_reducible refine p_then_e ?_
      | with_reducible refine p_blk_n ?_
      | with_reducible refine p_blk_r ?_
      | with_reducible refine p_blk_hit (by with_unfolding_all exact rfl) ?_
      | with_reducible refine p_blk_miss (by with_unfolding_all exact rfl) ?_
      | with_reducible refine p_ret (by with_unfolding_all exact rfl) (by with_unfolding_all first | exact trivial | (simp only [AllP, addC, List.cons_append, List.nil_append]; repeat' (first | assumption | exact rfl | refine And.intro ?_ ?_ | omega | (simp only [decide_eq_true_eq, decide_eq_false_iff_not] at *; omega) | (simp; done))); done) ?_
      | with_reducible refine p_ret_n (by with_unfolding_all exact rfl) (by with_unfolding_all first | exact trivial | (simp only [AllP, addC, List.cons_append, List.nil_append]; repeat' (first | assumption | exact rfl | refine And.intro ?_ ?_ | omega | (simp only [decide_eq_true_eq, decide_eq_false_iff_not] at *; omega) | (simp; done))); done) ?_
      | with_reducible refine ops_lit (by with_unfolding_all exact rfl) (by with_unfolding_all exact rfl) (by with_unfolding_all exact rfl) (by with_unfolding_all exact rfl) (by with_unfolding_all first | exact trivial | (simp only [AllP, addC, List.cons_append, List.nil_append]; repeat' (first | assumption | exact rfl | refine And.intro ?_ ?_ | omega | (simp only [decide_eq_true_eq, decide_eq_false_iff_not] at *; omega) | (simp; done))); done) ?_
      | with_reducible refine c_byt (by with_unfolding_all exact rfl) (by assumption) ?_
      | with_reducible refine c_byf (by with_unfolding_all exact rfl) (by assumption) ?_
      | with_reducible refine draw_lit (by with_unfolding_all exact rfl) (by with_unfolding_all exact rfl) (by with_unfolding_all exact rfl) (by with_unfolding_all exact rfl) (by with_unfolding_all exact rfl) (by with_unfolding_all first | exact trivial | (simp only [AllP, addC, List.cons_append, List.nil_append]; repeat' (first | assumption | exact rfl | refine And.intro ?_ ?_ | omega | (simp only [decide_eq_true_eq, decide_eq_false_iff_not] at *; omega) | (simp; done))); done) ?_
      | with_reducible refine draw_by (r := true) (by with_unfolding_all exact rfl) (by with_unfolding_all exact rfl) (by assumption) (by with_unfolding_all exact rfl) ?_
      | with_reducible refine draw_by (r := false) (by with_unfolding_all exact rfl) (by with_unfolding_all exact rfl) (by assumption) (by with_unfolding_all exact rfl) ?_
      | with_reducible refine ops_by (r := true) (by with_unfolding_all exact rfl) (by assumption) (by with_unfolding_all exact rfl) ?_
      | with_reducible refine ops_by (r := false) (by with_unfolding_all exact rfl) (by assumption) (by with_unfolding_all exact rfl) ?_
      | (with_reducible refine c_split (by with_unfolding_all exact rfl) ?_ ?_ <;> (intro h; try (exfalso; simp at h; done)))
      | (with_reducible refine draw_split (by with_unfolding_all exact rfl) (by with_unfolding_all exact rfl) (by with_unfolding_all exact rfl) (by with_unfolding_all exact rfl) ?_ ?_ <;> (intro h; try (exfalso; simp at h; done)))
      | (with_reducible refine ops_split (by with_unfolding_all exact rfl) (by with_unfolding_all exact rfl) (by with_unfolding_all exact rfl) ?_ ?_ <;> (intro h; try (exfalso; simp at h; done)))
      | with_reducible refine ops_run (by with_unfolding_all exact rfl) (by with_unfolding_all exact rfl) ?_ ?_
      | with_reducible refine ops_lit (by with_unfolding_all exact rfl) (by with_unfolding_all exact rfl) (by with_unfolding_all exact rfl) (by with_unfolding_all exact rfl) ?_ ?_
      | with_reducible refine draw_run (by with_unfolding_all exact rfl) (by with_unfolding_all exact rfl) ?_ ?_
      | with_reducible refine draw_lit (by with_unfolding_all exact rfl) (by with_unfolding_all exact rfl) (by with_unfolding_all exact rfl) (by with_unfolding_all exact rfl) (by with_unfolding_all exact rfl) ?_ ?_
      | with_reducible refine p_ret (by with_unfolding_all exact rfl) ?_ ?_))
  all_goals (with_reducible refine gcS_go [some 0] (by with_unfolding_all exact rfl) (by with_unfolding_all exact trivial) ?_)
  all_goals exact ⟨congrArg _ t3, rfl⟩
theorem tz_sound : Sound Tryd.prog 28 fun args H k => ∃ (s n l : Nat), args = [.int .u64 (s : Int)] ∧ H[l]? = some tabO ∧ 0 < s ∧ s < 2 ^ 64 ∧ n < 64 ∧ s &&& (2 ^ 64 - s) = 2 ^ n ∧ k (.int .i64 (n : Int)) H := by
  refine sound_small hNG hmix ?_
  rintro args H k ⟨s, n, l, rfl, h1, h0, hs, hn, h2, hk⟩
  refine ⟨40, _, _, [l], _, tz_ev s n h0 hs hn h2, rfl, stands_of (by simp) ⟨h1, trivial⟩, ⟨trivial, trivial⟩, rfl, by simp [tabO, Ob.live], ?_⟩
  rintro v H' ⟨rfl, rfl⟩
  refine ⟨fun j o hj h => (by rw [List.getElem?_eq_none (by simpa using hj)] at h; cases h), ?_⟩
  rw [show merge (rho [l] H.length) [l] [tabO] H = H.set l tabO ++ [] from rfl, List.append_nil, set_same h1]; exact hk

/-- Two rows of numbers are the same. -/
def sameP (f g : Nat → Int) (s t n : Nat) : Prop := ∀ i, i < n → f (s + i) = g (t + i)
def ST (A B : Option Addr) (ca cb sa sb n : Nat) (rw : Nat → Value) (i : Int) : List V := [.slc A ca 0 sa n, .slc B cb 1 sb n, .raw (rw 2), .raw (rw 3), .raw (rw 4), .raw (rw 5), .raw (rw 6), .raw (rw 7), .raw (rw 8), .raw (rw 9), .raw (rw 10), .raw (rw 11), .int .i64 n, .int .i64 i, .raw (rw 14), .raw (rw 15), .raw (rw 16), .raw (rw 17), .raw (rw 18), .raw (rw 19), .raw (rw 20), .raw (rw 21), .raw (rw 22), .raw (rw 23), .raw (rw 24), .raw (rw 25)]
def SIn (A B : Option Addr) (ca cb sa sb n na nb : Nat) (oa ob : Bool) (ta tb : TypeId) (f g : Nat → Int) (m : Nat) (a : LAct) (H : List Ob) : Prop :=
  ∃ (rw : Nat → Value) (i : Nat), i + m = n ∧ sameP f g sa sb i ∧ a = ⟨ST A B ca cb sa sb n rw i, []⟩ ∧ H = [.mem oa ta [] na [.int .i64 f], .mem ob tb [] nb [.int .i64 g]]
theorem same_ev (A B : Option Addr) (ca cb sa sb n n2 na nb : Nat) (oa ob : Bool) (ta tb : TypeId) (f g : Nat → Int) (ha : sa + n ≤ na) (hb : sb + n2 ≤ nb) (hn : n ≤ 9223372036854775807) :
    evF Tryd.prog 40 12 [.slc A ca 0 sa n, .slc B cb 1 sb n2] [.mem oa ta [] na [.int .i64 f], .mem ob tb [] nb [.int .i64 g]]
      (gcS 2 fun v H => (∃ b, v = .bool b ∧ (b = true ↔ n = n2 ∧ sameP f g sa sb n)) ∧ H = [.mem oa ta [] na [.int .i64 f], .mem ob tb [] nb [.int .i64 g]]) := by
  ((with_reducible refine evF_go (by with_unfolding_all exact rfl) (by with_unfolding_all exact rfl) ?_); repeat' (first
      | with_reducible refine c_seq ?_
      | with_reducible refine p_then_n ?_
      | with_reducible refine p_nrm ?_
      | with_reducible refine c_region (by with_unfolding_all exact rfl) ?_
      | with_reducible refine ops_run (by with_unfolding_all exact rfl) (by with_unfolding_all exact rfl) (by with_unfolding_all first | exact trivial | (simp only [AllP, addC, List.cons_append, List.nil_append]; repeat' (first | assumption | exact rfl | refine And.intro ?_ ?_ | omega | (simp only [decide_eq_true_eq, decide_eq_false_iff_not] at *; omega) | (simp; done))); done) ?_
      | with_reducible refine ops_nil ?_
      | with_reducible refine ops_step (by with_unfolding_all exact rfl) (call_text (by with_unfolding_all exact rfl) (by with_unfolding_all exact rfl) (by with_unfolding_all exact rfl) ?_)
      | with_reducible refine one_step (by with_unfolding_all exact rfl) (call_text (by with_unfolding_all exact rfl) (by with_unfolding_all exact rfl) (by with_unfolding_all exact rfl) ?_)
      | with_reducible refine aft_go (by with_unfolding_all exact rfl) ?_
      | (with_reducible refine ops_step (by with_unfolding_all exact rfl) (look_go (by with_unfolding_all exact rfl) (fun g h => ?_) (fun h => ?_)) <;> (try (exfalso; simp at h; done)))
      | (with_reducible refine one_step (by with_unfolding_all exact rfl) (look_go (by with_unfolding_all exact rfl) (fun g h => ?_) (fun h => ?_)) <;> (try (exfalso; simp at h; done)))
      | with_reducible refine c_draw (by with_unfolding_all exact rfl) (by with_unfolding_all exact rfl) (by with_unfolding_all exact rfl) ?_
      | with_reducible refine draw_run (by with_unfolding_all exact rfl) (by with_unfolding_all exact rfl) (by with_unfolding_all first | exact trivial | (simp only [AllP, addC, List.cons_append, List.nil_append]; repeat' (first | assumption | exact rfl | refine And.intro ?_ ?_ | omega | (simp only [decide_eq_true_eq, decide_eq_false_iff_not] at *; omega) | (simp; done))); done) ?_
      | with_reducible refine draw_done (by with_unfolding_all exact rfl) ?_
      | with_reducible refine draw_many (by with_unfolding_all exact rfl) (by with_unfolding_all exact rfl) ?_
      | with_reducible refine allD_one ?_
      | with_reducible refine one_step (by with_unfolding_all exact rfl) (stp_eff (by with_unfolding_all exact rfl) (by with_unfolding_all exact rfl) (by with_unfolding_all first | exact trivial | (simp only [AllP, addC, List.cons_append, List.nil_append]; repeat' (first | assumption | exact rfl | refine And.intro ?_ ?_ | omega | (simp only [decide_eq_true_eq, decide_eq_false_iff_not] at *; omega) | (simp; done))); done) ?_)
      | with_reducible refine aftD_go (by with_unfolding_all exact rfl) (by with_unfolding_all exact rfl) (by with_unfolding_all first | exact trivial | (simp only [AllP, addC, List.cons_append, List.nil_append]; repeat' (first | assumption | exact rfl | refine And.intro ?_ ?_ | omega | (simp only [decide_eq_true_eq, decide_eq_false_iff_not] at *; omega) | (simp; done))); done) ?_
      | with_reducible refine allD_more ?_ ?_
      | with_reducible refine ops_step (by with_unfolding_all exact rfl) (app_go (by with_unfolding_all exact rfl) (by with_unfolding_all first | exact trivial | (simp only [AllP, addC, List.cons_append, List.nil_append]; repeat' (first | assumption | exact rfl | refine And.intro ?_ ?_ | omega | (simp only [decide_eq_true_eq, decide_eq_false_iff_not] at *; omega) | (simp; done))); done) (fun p cap hcap => ?_))
      | with_reducible refine ops_step (by with_unfolding_all exact rfl) (mk_go (by with_unfolding_all exact rfl) (by with_unfolding_all first | exact trivial | (simp only [AllP, addC, List.cons_append, List.nil_append]; repeat' (first | assumption | exact rfl | refine And.intro ?_ ?_ | omega | (simp only [decide_eq_true_eq, decide_eq_false_iff_not] at *; omega) | (simp; done))); done) (fun p => ?_))
      | with_reducible refine ops_step (by with_unfolding_all exact rfl) (yld_go (by with_unfolding_all exact rfl) ?_)
      | with_reducible refine one_step (by with_unfolding_all exact rfl) (app_go (by with_unfolding_all exact rfl) (by with_unfolding_all first | exact trivial | (simp only [AllP, addC, List.cons_append, List.nil_append]; repeat' (first | assumption | exact rfl | refine And.intro ?_ ?_ | omega | (simp only [decide_eq_true_eq, decide_eq_false_iff_not] at *; omega) | (simp; done))); done) (fun p cap hcap => ?_))
      | with_reducible refine one_step (by with_unfolding_all exact rfl) (mk_go (by with_unfolding_all exact rfl) (by with_unfolding_all first | exact trivial | (simp only [AllP, addC, List.cons_append, List.nil_append]; repeat' (first | assumption | exact rfl | refine And.intro ?_ ?_ | omega | (simp only [decide_eq_true_eq, decide_eq_false_iff_not] at *; omega) | (simp; done))); done) (fun p => ?_))
      | with_reducible refine one_step (by with_unfolding_all exact rfl) (yld_go (by with_unfolding_all exact rfl) ?_)
      | with_reducible refine c_range (by with_unfolding_all exact rfl) (by with_unfolding_all exact rfl) (by with_unfolding_all exact rfl) (by with_unfolding_all exact rfl) (by with_unfolding_all exact rfl) ?_
      | with_reducible refine c_range_in (by with_unfolding_all exact rfl) (by with_unfolding_all exact rfl) (by with_unfolding_all exact rfl) (by with_unfolding_all exact rfl) (by with_unfolding_all exact rfl) (by with_unfolding_all exact rfl) ?_
      | with_reducible refine roundA_go (by with_unfolding_all exact rfl) (by with_unfolding_all exact rfl) ?_
      | with_reducible refine roundB_n (by with_unfolding_all exact rfl) ?_
      | with_reducible refine roundB_r (by with_unfolding_all exact rfl) ?_
      | with_reducible refine roundB_e (by with_unfolding_all exact rfl) ?_
      | with_reducible refine aftR_n (by with_unfolding_all exact rfl) (by with_unfolding_all exact rfl) ?_
      | with_reducible refine aftR_c (by with_unfolding_all exact rfl) (by with_unfolding_all exact rfl) ?_
      | with_reducible refine c_t (by with_unfolding_all exact rfl) ?_
      | with_reducible refine c_f (by with_unfolding_all exact rfl) ?_
      | with_reducible refine c_ret ?_
      | with_reducible refine c_exit ?_
      | with_reducible refine c_skip ?_
      | with_reducible refine c_block ?_
      | with_reducible refine p_then_r ?_
      | with_reducible refine p_then_e ?_
      | with_reducible refine p_blk_n ?_
      | with_reducible refine p_blk_r ?_
      | with_reducible refine p_blk_hit (by with_unfolding_all exact rfl) ?_
      | with_reducible refine p_blk_miss (by with_unfolding_all exact rfl) ?_
      | with_reducible refine p_ret (by with_unfolding_all exact rfl) (by with_unfolding_all first | exact trivial | (simp only [AllP, addC, List.cons_append, List.nil_append]; repeat' (first | assumption | exact rfl | refine And.intro ?_ ?_ | omega | (simp only [decide_eq_true_eq, decide_eq_false_iff_not] at *; omega) | (simp; done))); done) ?_
      | with_reducible refine p_ret_n (by with_unfolding_all exact rfl) (by with_unfolding_all first | exact trivial | (simp only [AllP, addC, List.cons_append, List.nil_append]; repeat' (first | assumption | exact rfl | refine And.intro ?_ ?_ | omega | (simp only [decide_eq_true_eq, decide_eq_false_iff_not] at *; omega) | (simp; done))); done) ?_
      | with_reducible refine ops_lit (by with_unfolding_all exact rfl) (by with_unfolding_all exact rfl) (by with_unfolding_all exact rfl) (by with_unfolding_all exact rfl) (by with_unfolding_all first | exact trivial | (simp only [AllP, addC, List.cons_append, List.nil_append]; repeat' (first | assumption | exact rfl | refine And.intro ?_ ?_ | omega | (simp only [decide_eq_true_eq, decide_eq_false_iff_not] at *; omega) | (simp; done))); done) ?_
      | with_reducible refine c_byt (by with_unfolding_all exact rfl) (by assumption) ?_
      | with_reducible refine c_byf (by with_unfolding_all exact rfl) (by assumption) ?_
      | with_reducible refine draw_lit (by with_unfolding_all exact rfl) (by with_unfolding_all exact rfl) (by with_unfolding_all exact rfl) (by with_unfolding_all exact rfl) (by with_unfolding_all exact rfl) (by with_unfolding_all first | exact trivial | (simp only [AllP, addC, List.cons_append, List.nil_append]; repeat' (first | assumption | exact rfl | refine And.intro ?_ ?_ | omega | (simp only [decide_eq_true_eq, decide_eq_false_iff_not] at *; omega) | (simp; done))); done) ?_
      | with_reducible refine draw_by (r := true) (by with_unfolding_all exact rfl) (by with_unfolding_all exact rfl) (by assumption) (by with_unfolding_all exact rfl) ?_
      | with_reducible refine draw_by (r := false) (by with_unfolding_all exact rfl) (by with_unfolding_all exact rfl) (by assumption) (by with_unfolding_all exact rfl) ?_
      | with_reducible refine ops_by (r := true) (by with_unfolding_all exact rfl) (by assumption) (by with_unfolding_all exact rfl) ?_
      | with_reducible refine ops_by (r := false) (by with_unfolding_all exact rfl) (by assumption) (by with_unfolding_all exact rfl) ?_
      | (with_reducible refine c_split (by with_unfolding_all exact rfl) ?_ ?_ <;> (intro h; try (exfalso; simp at h; done)))
      | (with_reducible refine draw_split (by with_unfolding_all exact rfl) (by with_unfolding_all exact rfl) (by with_unfolding_all exact rfl) (by with_unfolding_all exact rfl) ?_ ?_ <;> (intro h; try (exfalso; simp at h; done)))
      | (with_reducible refine ops_split (by with_unfolding_all exact rfl) (by with_unfolding_all exact rfl) (by with_unfolding_all exact rfl) ?_ ?_ <;> (intro h; try (exfalso; simp at h; done)))
      | with_reducible refine ops_run (by with_unfolding_all exact rfl) (by with_unfolding_all exact rfl) ?_ ?_
      | with_reducible refine ops_lit (by with_unfolding_all exact rfl) (by with_unfolding_all exact rfl) (by with_unfolding_all exact rfl) (by with_unfolding_all exact rfl) ?_ ?_
      | with_reducible refine draw_run (by with_unfolding_all exact rfl) (by with_unfolding_all exact rfl) ?_ ?_
      | with_reducible refine draw_lit (by with_unfolding_all exact rfl) (by with_unfolding_all exact rfl) (by with_unfolding_all exact rfl) (by with_unfolding_all exact rfl) (by with_unfolding_all exact rfl) ?_ ?_
      | with_reducible refine p_ret (by with_unfolding_all exact rfl) ?_ ?_))
  · (with_reducible refine gcS_go [some 0, some 1] (by with_unfolding_all exact rfl) (by with_unfolding_all exact trivial) ?_)
    exact ⟨⟨false, rfl, ⟨fun e => (by cases e), fun e => absurd e.1 (by simp at h; omega)⟩⟩, rfl⟩
  · have hnn : n = n2 := by simp at h; omega
    subst hnn
    refine c_loop 2 (SIn A B ca cb sa sb n na nb oa ob ta tb f g) n (by with_unfolding_all exact rfl) ?_ ?_
    · refine gcM_go fun rw => ⟨[true, true, false, false, false, false, false, false, false, false, false, false, true, true], [some 0, some 1], _, _, _, rfl, trivial, ?_⟩
      exact ⟨rw, 0, by omega, fun i h => by omega, rfl, rfl⟩
    · rintro m a H ⟨rw0, i, hm, hs, rfl, rfl⟩
      have hw : i < n → IntKind.i64.wrap ((i : Int) + 1) = ((i + 1 : Nat) : Int) := fun h => IntWalk.i64_in _ (by omega)
      (repeat' (first
          | with_reducible refine c_seq ?_
          | with_reducible refine p_then_n ?_
          | with_reducible refine p_nrm ?_
          | with_reducible refine c_region (by with_unfolding_all exact rfl) ?_
          | with_reducible refine ops_run (by with_unfolding_all exact rfl) (by with_unfolding_all exact rfl) (by with_unfolding_all first | exact trivial | (simp only [AllP, addC, List.cons_append, List.nil_append]; repeat' (first | assumption | exact rfl | refine And.intro ?_ ?_ | omega | (simp only [decide_eq_true_eq, decide_eq_false_iff_not] at *; omega) | (simp; done))); done) ?_
          | with_reducible refine ops_nil ?_
          | with_reducible refine ops_step (by with_unfolding_all exact rfl) (call_text (by with_unfolding_all exact rfl) (by with_unfolding_all exact rfl) (by with_unfolding_all exact rfl) ?_)
          | with_reducible refine one_step (by with_unfolding_all exact rfl) (call_text (by with_unfolding_all exact rfl) (by with_unfolding_all exact rfl) (by with_unfolding_all exact rfl) ?_)
          | with_reducible refine aft_go (by with_unfolding_all exact rfl) ?_
          | (with_reducible refine ops_step (by with_unfolding_all exact rfl) (look_go (by with_unfolding_all exact rfl) (fun g h => ?_) (fun h => ?_)) <;> (try (exfalso; simp at h; done)))
          | (with_reducible refine one_step (by with_unfolding_all exact rfl) (look_go (by with_unfolding_all exact rfl) (fun g h => ?_) (fun h => ?_)) <;> (try (exfalso; simp at h; done)))
          | with_reducible refine c_draw (by with_unfolding_all exact rfl) (by with_unfolding_all exact rfl) (by with_unfolding_all exact rfl) ?_
          | with_reducible refine draw_run (by with_unfolding_all exact rfl) (by with_unfolding_all exact rfl) (by with_unfolding_all first | exact trivial | (simp only [AllP, addC, List.cons_append, List.nil_append]; repeat' (first | assumption | exact rfl | refine And.intro ?_ ?_ | omega | (simp only [decide_eq_true_eq, decide_eq_false_iff_not] at *; omega) | (simp; done))); done) ?_
          | with_reducible refine draw_done (by with_unfolding_all exact rfl) ?_
          | with_reducible refine draw_many (by with_unfolding_all exact rfl) (by with_unfolding_all exact rfl) ?_
          | with_reducible refine allD_one ?_
          | with_reducible refine one_step (by with_unfolding_all exact rfl) (stp_eff (by with_unfolding_all exact rfl) (by with_unfolding_all exact rfl) (by with_unfolding_all first | exact trivial | (simp only [AllP, addC, List.cons_append, List.nil_append]; repeat' (first | assumption | exact rfl | refine And.intro ?_ ?_ | omega | (simp only [decide_eq_true_eq, decide_eq_false_iff_not] at *; omega) | (simp; done))); done) ?_)
          | with_reducible refine aftD_go (by with_unfolding_all exact rfl) (by with_unfolding_all exact rfl) (by with_unfolding_all first | exact trivial | (simp only [AllP, addC, List.cons_append, List.nil_append]; repeat' (first | assumption | exact rfl | refine And.intro ?_ ?_ | omega | (simp only [decide_eq_true_eq, decide_eq_false_iff_not] at *; omega) | (simp; done))); done) ?_
          | with_reducible refine allD_more ?_ ?_
          | with_reducible refine ops_step (by with_unfolding_all exact rfl) (app_go (by with_unfolding_all exact rfl) (by with_unfolding_all first | exact trivial | (simp only [AllP, addC, List.cons_append, List.nil_append]; repeat' (first | assumption | exact rfl | refine And.intro ?_ ?_ | omega | (simp only [decide_eq_true_eq, decide_eq_false_iff_not] at *; omega) | (simp; done))); done) (fun p cap hcap => ?_))
          | with_reducible refine ops_step (by with_unfolding_all exact rfl) (mk_go (by with_unfolding_all exact rfl) (by with_unfolding_all first | exact trivial | (simp only [AllP, addC, List.cons_append, List.nil_append]; repeat' (first | assumption | exact rfl | refine And.intro ?_ ?_ | omega | (simp only [decide_eq_true_eq, decide_eq_false_iff_not] at *; omega) | (simp; done))); done) (fun p => ?_))
          | with_reducible refine ops_step (by with_unfolding_all exact rfl) (yld_go (by with_unfolding_all exact rfl) ?_)
          | with_reducible refine one_step (by with_unfolding_all exact rfl) (app_go (by with_unfolding_all exact rfl) (by with_unfolding_all first | exact trivial | (simp only [AllP, addC, List.cons_append, List.nil_append]; repeat' (first | assumption | exact rfl | refine And.intro ?_ ?_ | omega | (simp only [decide_eq_true_eq, decide_eq_false_iff_not] at *; omega) | (simp; done))); done) (fun p cap hcap => ?_))
          | with_reducible refine one_step (by with_unfolding_all exact rfl) (mk_go (by with_unfolding_all exact rfl) (by with_unfolding_all first | exact trivial | (simp only [AllP, addC, List.cons_append, List.nil_append]; repeat' (first | assumption | exact rfl | refine And.intro ?_ ?_ | omega | (simp only [decide_eq_true_eq, decide_eq_false_iff_not] at *; omega) | (simp; done))); done) (fun p => ?_))
          | with_reducible refine one_step (by with_unfolding_all exact rfl) (yld_go (by with_unfolding_all exact rfl) ?_)
          | with_reducible refine c_range (by with_unfolding_all exact rfl) (by with_unfolding_all exact rfl) (by with_unfolding_all exact rfl) (by with_unfolding_all exact rfl) (by with_unfolding_all exact rfl) ?_
          | with_reducible refine c_range_in (by with_unfolding_all exact rfl) (by with_unfolding_all exact rfl) (by with_unfolding_all exact rfl) (by with_unfolding_all exact rfl) (by with_unfolding_all exact rfl) (by with_unfolding_all exact rfl) ?_
          | with_reducible refine roundA_go (by with_unfolding_all exact rfl) (by with_unfolding_all exact rfl) ?_
          | with_reducible refine roundB_n (by with_unfolding_all exact rfl) ?_
          | with_reducible refine roundB_r (by with_unfolding_all exact rfl) ?_
          | with_reducible refine roundB_e (by with_unfolding_all exact rfl) ?_
          | with_reducible refine aftR_n (by with_unfolding_all exact rfl) (by with_unfolding_all exact rfl) ?_
          | with_reducible refine aftR_c (by with_unfolding_all exact rfl) (by with_unfolding_all exact rfl) ?_
          | with_reducible refine c_t (by with_unfolding_all exact rfl) ?_
          | with_reducible refine c_f (by with_unfolding_all exact rfl) ?_
          | with_reducible refine c_ret ?_
          | with_reducible refine c_exit ?_
          | with_reducible refine c_skip ?_
          | with_reducible refine c_block ?_
          | with_reducible refine p_then_r ?_
          | with_reducible refine p_then_e ?_
          | with_reducible refine p_blk_n ?_
          | with_reducible refine p_blk_r ?_
          | with_reducible refine p_blk_hit (by with_unfolding_all exact rfl) ?_
          | with_reducible refine p_blk_miss (by with_unfolding_all exact rfl) ?_
          | with_reducible refine p_ret (by with_unfolding_all exact rfl) (by with_unfolding_all first | exact trivial | (simp only [AllP, addC, List.cons_append, List.nil_append]; repeat' (first | assumption | exact rfl | refine And.intro ?_ ?_ | omega | (simp only [decide_eq_true_eq, decide_eq_false_iff_not] at *; omega) | (simp; done))); done) ?_
          | with_reducible refine p_ret_n (by with_unfolding_all exact rfl) (by with_unfolding_all first | exact trivial | (simp only [AllP, addC, List.cons_append, List.nil_append]; repeat' (first | assumption | exact rfl | refine And.intro ?_ ?_ | omega | (simp only [decide_eq_true_eq, decide_eq_false_iff_not] at *; omega) | (simp; done))); done) ?_
          | with_reducible refine ops_lit (by with_unfolding_all exact rfl) (by with_unfolding_all exact rfl) (by with_unfolding_all exact rfl) (by with_unfolding_all exact rfl) (by with_unfolding_all first | exact trivial | (simp only [AllP, addC, List.cons_append, List.nil_append]; repeat' (first | assumption | exact rfl | refine And.intro ?_ ?_ | omega | (simp only [decide_eq_true_eq, decide_eq_false_iff_not] at *; omega) | (simp; done))); done) ?_
          | with_reducible refine c_byt (by with_unfolding_all exact rfl) (by assumption) ?_
          | with_reducible refine c_byf (by with_unfolding_all exact rfl) (by assumption) ?_
          | with_reducible refine draw_lit (by with_unfolding_all exact rfl) (by with_unfolding_all exact rfl) (by with_unfolding_all exact rfl) (by with_unfolding_all exact rfl) (by with_unfolding_all exact rfl) (by with_unfolding_all first | exact trivial | (simp only [AllP, addC, List.cons_append, List.nil_append]; repeat' (first | assumption | exact rfl | refine And.intro ?_ ?_ | omega | (simp only [decide_eq_true_eq, decide_eq_false_iff_not] at *; omega) | (simp; done))); done) ?_
          | with_reducible refine draw_by (r := true) (by with_unfolding_all exact rfl) (by with_unfolding_all exact rfl) (by assumption) (by with_unfolding_all exact rfl) ?_
          | with_reducible refine draw_by (r := false) (by with_unfolding_all exact rfl) (by with_unfolding_all exact rfl) (by assumption) (by with_unfolding_all exact rfl) ?_
          | with_reducible refine ops_by (r := true) (by with_unfolding_all exact rfl) (by assumption) (by with_unfolding_all exact rfl) ?_
          | with_reducible refine ops_by (r := false) (by with_unfolding_all exact rfl) (by assumption) (by with_unfolding_all exact rfl) ?_
          | (with_reducible refine c_split (by with_unfolding_all exact rfl) ?_ ?_ <;> (intro h; try (exfalso; simp at h; done)))
          | (with_reducible refine draw_split (by with_unfolding_all exact rfl) (by with_unfolding_all exact rfl) (by with_unfolding_all exact rfl) (by with_unfolding_all exact rfl) ?_ ?_ <;> (intro h; try (exfalso; simp at h; done)))
          | (with_reducible refine ops_split (by with_unfolding_all exact rfl) (by with_unfolding_all exact rfl) (by with_unfolding_all exact rfl) ?_ ?_ <;> (intro h; try (exfalso; simp at h; done)))
          | with_reducible refine ops_run (by with_unfolding_all exact rfl) (by with_unfolding_all exact rfl) ?_ ?_
          | with_reducible refine ops_lit (by with_unfolding_all exact rfl) (by with_unfolding_all exact rfl) (by with_unfolding_all exact rfl) (by with_unfolding_all exact rfl) ?_ ?_
          | with_reducible refine draw_run (by with_unfolding_all exact rfl) (by with_unfolding_all exact rfl) ?_ ?_
          | with_reducible refine draw_lit (by with_unfolding_all exact rfl) (by with_unfolding_all exact rfl) (by with_unfolding_all exact rfl) (by with_unfolding_all exact rfl) (by with_unfolding_all exact rfl) ?_ ?_
          | with_reducible refine p_ret (by with_unfolding_all exact rfl) ?_ ?_))
      · have hin : i < n := by simp only [decide_eq_true_eq] at *; omega
        (with_reducible refine gcS_go [some 0, some 1] (by with_unfolding_all exact rfl) (by with_unfolding_all exact trivial) ?_)
        refine ⟨⟨false, rfl, ⟨fun e => (by cases e), fun e => ?_⟩⟩, rfl⟩
        have := e.2 i hin
        simp [this] at h
      · have hin : i < n := by simp only [decide_eq_true_eq] at *; omega
        refine again_go fun rw => ⟨[true, true, false, false, false, false, false, false, false, false, false, false, true, true], [some 0, some 1], _, _, _, rfl, trivial, m - 1, by omega, rw, i + 1, by omega, fun j hj => ?_, ?_, rfl⟩
        · rcases Nat.lt_or_ge j i with hj2 | hj2
          · exact hs j hj2
          · obtain rfl : j = i := by omega
            simpa using h
        · rw [← hw hin]; rfl
      · have hin : i = n := by simp only [decide_eq_false_iff_not] at *; omega
        subst hin
        (with_reducible refine gcS_go [some 0, some 1] (by with_unfolding_all exact rfl) (by with_unfolding_all exact trivial) ?_)
        exact ⟨⟨true, rfl, ⟨fun _ => ⟨rfl, hs⟩, fun _ => rfl⟩⟩, rfl⟩
theorem same_sound : Sound Tryd.prog 12 fun args H k => ∃ (A B : Option Addr) (ca cb la lb sa sb n n2 na nb : Nat) (oa ob : Bool) (ta tb : TypeId) (f g : Nat → Int), args = [.slc A ca la sa n, .slc B cb lb sb n2] ∧ H[la]? = some (.mem oa ta [] na [.int .i64 f]) ∧ H[lb]? = some (.mem ob tb [] nb [.int .i64 g]) ∧ la ≠ lb ∧
    sa + n ≤ na ∧ sb + n2 ≤ nb ∧ n ≤ 9223372036854775807 ∧ (∀ b, (b = true ↔ n = n2 ∧ sameP f g sa sb n) → k (.bool b) H) := by
  refine sound_small hNG hmix ?_
  rintro args H k ⟨A, B, ca, cb, la, lb, sa, sb, n, n2, na, nb, oa, ob, ta, tb, f, g, rfl, h1, h2, hne, ha, hb, hn, hk⟩
  refine ⟨40, _, _, [la, lb], _, same_ev A B ca cb sa sb n n2 na nb oa ob ta tb f g ha hb hn, rfl, stands_of (by simp [hne]) ⟨h1, h2, trivial⟩, labH2 ⟨trivial, trivial⟩ ⟨trivial, trivial⟩, rfl, by simp [Ob.live], ?_⟩
  rintro v H' ⟨⟨b, rfl, hb'⟩, rfl⟩
  refine ⟨fun j o hj h => (by rw [List.getElem?_eq_none (by simpa using hj)] at h; cases h), ?_⟩
  rw [show merge (rho [la, lb] H.length) [la, lb] [Ob.mem oa ta [] na [.int .i64 f], .mem ob tb [] nb [.int .i64 g]] H = (H.set la (.mem oa ta [] na [.int .i64 f])).set lb (.mem ob tb [] nb [.int .i64 g]) ++ [] from rfl, List.append_nil, set_same h1, set_same h2]
  exact hk b hb'
end Go.Proofs.YtonohiifmepjfaaDoor
