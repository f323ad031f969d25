/-
  Plain facts: how many bits a number has below a place; what In answers.
-/
import Derived.Test.YtonohiifmepjfaaDoorL1
namespace Go.Proofs.YtonohiifmepjfaaDoor
open Go Go.RowKit Ev

theorem inB_nat {s i : Nat} (hs : s < 2 ^ 64) (hi : i < 64) : inB (s : Int) (i : Int) = s.testBit i := by
  have hw : (IntKind.u64.wrap (i : Int)).toNat = i := by rw [wrap_nat (by omega)]; rfl
  have hm : min i 64 = i := by omega
  have h1 : ((s : Int).fdiv (2 ^ i)) = ((s / 2 ^ i : Nat) : Int) := by
    rw [show (2 : Int) ^ i = ((2 ^ i : Nat) : Int) by simp]; exact (Int.ofNat_fdiv _ _).symm
  unfold inB
  rw [hw, hm, h1, Nat.testBit_eq_decide_div_mod_eq]
  have h2 : (((s / 2 ^ i : Nat) : Int)).tmod 2 = ((s / 2 ^ i % 2 : Nat) : Int) := rfl
  rw [h2]
  clear hw h1 h2
  rw [Bool.eq_iff_iff]
  simp only [Bool.and_eq_true, decide_eq_true_eq, beq_iff_eq]
  omega
def cnt (s i : Nat) : Nat := ((List.range i).filter fun j => s.testBit j).length
theorem cnt_succ (s i : Nat) : cnt s (i + 1) = cnt s i + if s.testBit i then 1 else 0 := by
  unfold cnt
  rw [List.range_succ, List.filter_append, List.length_append]
  cases h : s.testBit i <;> simp [h]
theorem cnt_all (s : Nat) : cnt s 64 = (bitsL s).length := rfl
theorem bits_at {s i : Nat} (hi : i < 64) (h : s.testBit i = true) : cnt s i < (bitsL s).length ∧ (bitsL s).getD (cnt s i) 0 = i := by
  have e : bitsL s = (List.range i).filter (fun j => s.testBit j) ++ i :: ((List.range (64 - i - 1)).map (· + (i + 1))).filter fun j => s.testBit j := by
    unfold bitsL
    have : List.range 64 = List.range i ++ i :: (List.range (64 - i - 1)).map (· + (i + 1)) := by
      apply List.ext_getElem?
      intro j
      rcases Nat.lt_trichotomy j i with hj | hj | hj
      · rw [List.getElem?_append_left (by simpa using hj), List.getElem?_range (by omega), List.getElem?_range hj]
      · subst hj; rw [List.getElem?_append_right (by simp)]; simp [hi]
      · rw [List.getElem?_append_right (by simp; omega)]
        obtain ⟨d, rfl⟩ : ∃ d, j = i + 1 + d := ⟨j - i - 1, by omega⟩
        rw [show i + 1 + d - (List.range i).length = d + 1 by simp; omega]
        rw [List.getElem?_cons_succ]
        by_cases hd : i + 1 + d < 64
        · simp [hd, show d < 64 - i - 1 by omega]; omega
        · rw [List.getElem?_eq_none (by simp; omega), List.getElem?_eq_none (by simp; omega)]
    rw [this, List.filter_append, List.filter_cons, if_pos h]
  rw [e]
  unfold cnt
  refine ⟨by simp, ?_⟩
  simp [List.getD]
end Go.Proofs.YtonohiifmepjfaaDoor
