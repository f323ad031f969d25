/-
  Plain facts on the bits of a number below 2^64: the lowest bit, and what is left without it.
-/
import Derived.IntWalk
import Derived.KernelRfl
namespace Go.Proofs.YtonohiifmepjfaaDoor
open Go

/-- A positive number is a power of two times an odd number. -/
theorem odd_part (n : Nat) (h : 0 < n) : ∃ k q, n = 2 ^ k * (2 * q + 1) := by
  induction n using Nat.strongRecOn with
  | _ n ih =>
    rcases Nat.mod_two_eq_zero_or_one n with h0 | h1
    · obtain ⟨k, q, hk⟩ := ih (n / 2) (by omega) (by omega)
      refine ⟨k + 1, q, ?_⟩
      rw [Nat.pow_succ, Nat.mul_comm (2 ^ k) 2, Nat.mul_assoc, ← hk]; omega
    · exact ⟨0, n / 2, by omega⟩
theorem low_bits {k q : Nat} : (∀ i, i < k → (2 ^ k * (2 * q + 1)).testBit i = false) ∧ (2 ^ k * (2 * q + 1)).testBit k = true ∧
    ∀ i, (2 ^ k * (2 * q + 1) - 1).testBit i = if i < k then true else if i = k then false else (2 ^ k * (2 * q + 1)).testBit i := by
  have e0 : 2 ^ k * (2 * q + 1) = 2 ^ k * (2 * q + 1) + 0 := rfl
  have hp : 0 < 2 ^ k := Nat.two_pow_pos k
  have g : ∀ i, (2 ^ k * (2 * q + 1)).testBit i = if i < k then false else (2 * q + 1).testBit (i - k) := fun i => by
    rw [e0, Nat.testBit_two_pow_mul_add _ hp]; simp
  refine ⟨fun i hi => by rw [g, if_pos hi], by rw [g, if_neg (by omega)]; simp [Nat.testBit_zero], fun i => ?_⟩
  have e1 : 2 ^ k * (2 * q + 1) - 1 = 2 ^ k * (2 * q) + (2 ^ k - 1) := by
    rw [Nat.mul_add]; omega
  rw [e1, Nat.testBit_two_pow_mul_add _ (by omega), g]
  split
  · rename_i hi; rw [Nat.testBit_two_pow_sub_one]; simp [hi]
  · rename_i hi
    split
    · rename_i hk; subst hk; simp [Nat.testBit_zero]
    · rename_i hk
      obtain ⟨j, hj⟩ : ∃ j, i - k = j + 1 := ⟨i - k - 1, by omega⟩
      rw [hj, Nat.testBit_succ, Nat.testBit_succ]
      congr 1; omega

theorem and_pred {k q : Nat} : ∀ i, ((2 ^ k * (2 * q + 1)) &&& (2 ^ k * (2 * q + 1) - 1)).testBit i = ((2 ^ k * (2 * q + 1)).testBit i && decide (i ≠ k)) := fun i => by
  obtain ⟨h1, h2, h3⟩ := low_bits (k := k) (q := q)
  rw [Nat.testBit_and, h3]
  rcases Nat.lt_trichotomy i k with h | h | h
  · simp [h1 i h]
  · subst h; simp
  · simp [show ¬ i < k by omega, show i ≠ k by omega]
theorem and_neg {k q w : Nat} (hw : 2 ^ k * (2 * q + 1) < 2 ^ w) : (2 ^ k * (2 * q + 1)) &&& (2 ^ w - 2 ^ k * (2 * q + 1)) = 2 ^ k := by
  have hpos : 0 < 2 ^ k * (2 * q + 1) := Nat.mul_pos (Nat.two_pow_pos k) (by omega)
  obtain ⟨h1, h2, h3⟩ := low_bits (k := k) (q := q)
  apply Nat.eq_of_testBit_eq
  intro i
  have e : 2 ^ w - 2 ^ k * (2 * q + 1) = 2 ^ w - ((2 ^ k * (2 * q + 1) - 1) + 1) := by omega
  rw [Nat.testBit_and, e, Nat.testBit_two_pow_sub_succ (by omega), h3, Nat.testBit_two_pow]
  have hkw : k < w := by
    have : 2 ^ k < 2 ^ w := Nat.lt_of_le_of_lt (Nat.le_mul_of_pos_right _ (by omega)) hw
    exact (Nat.pow_lt_pow_iff_right (by omega)).1 this
  rcases Nat.lt_trichotomy i k with h | h | h
  · simp [h1 i h, h]; omega
  · subst h; simp [h2, hkw]
  · by_cases hi : (2 ^ k * (2 * q + 1)).testBit i = true
    · simp [hi, show ¬ i < k by omega, show i ≠ k by omega, show k ≠ i by omega]
    · simp at hi; simp [hi]; omega

/-- The bits of a number, rising. -/
def bitsL (s : Nat) : List Nat := (List.range 64).filter fun i => s.testBit i
theorem filter_first {p p' : Nat → Bool} {k : Nat} : ∀ {n : Nat}, k < n → p k = true → (∀ i, i < k → p i = false) → (∀ i, p' i = (p i && decide (i ≠ k))) → (List.range n).filter p = k :: (List.range n).filter p'
  | 0, h, _, _, _ => by omega
  | n + 1, h, h1, h2, h3 => by
    rw [List.range_succ, List.filter_append, List.filter_append]
    rcases Nat.lt_or_ge k n with hk | hk
    · rw [filter_first hk h1 h2 h3]
      have : p' n = p n := by rw [h3]; simp [show n ≠ k by omega]
      simp [List.filter_cons, this]
    · obtain rfl : k = n := by omega
      have e1 : (List.range k).filter p = [] := by
        rw [List.filter_eq_nil_iff]; intro a ha; simp [h2 a (by simpa using ha)]
      have e2 : (List.range k).filter p' = [] := by
        rw [List.filter_eq_nil_iff]; intro a ha; rw [h3]; simp [h2 a (by simpa using ha)]
      have e3 : p' k = false := by rw [h3]; simp
      simp [e1, e2, h1, e3]
theorem bitsL_step (s : Nat) (h0 : 0 < s) (hs : s < 2 ^ 64) : ∃ k, k < 64 ∧ s &&& (2 ^ 64 - s) = 2 ^ k ∧ bitsL s = k :: bitsL (s &&& (s - 1)) ∧ (s &&& (s - 1)) < s := by
  obtain ⟨k, q, rfl⟩ := odd_part s h0
  obtain ⟨h1, h2, h3⟩ := low_bits (k := k) (q := q)
  have hk : k < 64 := by
    have : 2 ^ k < 2 ^ 64 := Nat.lt_of_le_of_lt (Nat.le_mul_of_pos_right _ (by omega)) hs
    exact (Nat.pow_lt_pow_iff_right (by omega)).1 this
  refine ⟨k, hk, and_neg hs, filter_first hk h2 h1 and_pred, ?_⟩
  exact Nat.lt_of_le_of_lt Nat.and_le_right (by omega)
theorem bitsL_zero : bitsL 0 = [] := by decide
end Go.Proofs.YtonohiifmepjfaaDoor
