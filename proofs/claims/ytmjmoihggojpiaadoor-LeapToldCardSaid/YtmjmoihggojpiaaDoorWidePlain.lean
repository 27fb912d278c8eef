/- Long division by bits: plain mathematics. -/
set_option linter.unusedSimpArgs false
set_option linter.unusedVariables false
namespace Go.Proofs.YtmjmoihggojpiaaDoor.Wd

theorem pow_pos (n : Nat) : (0 : Int) < 2 ^ n := Int.pow_pos (by omega)
theorem half (N : Int) (n : Nat) : N / 2 ^ (n + 1) = N / 2 ^ n / 2 := by
  rw [Int.pow_succ, Int.ediv_ediv_of_nonneg (Int.le_of_lt (pow_pos n))]
theorem bit_step (p q : Int) (n : Nat) (hn : n ≤ 63) : (p * 18446744073709551616 + q) / 2 ^ n = 2 * ((p * 18446744073709551616 + q) / 2 ^ (n + 1)) + q / 2 ^ n % 2 := by
  have e : (18446744073709551616 : Int) = 2 ^ (63 - n) * 2 * 2 ^ n := by
    rw [← Int.pow_succ, ← Int.pow_add]
    rw [show 63 - n + 1 + n = 64 from by omega]; rfl
  have h1 : (p * 18446744073709551616 + q) / 2 ^ n = p * 2 ^ (63 - n) * 2 + q / 2 ^ n := by
    rw [e, ← Int.mul_assoc, ← Int.mul_assoc, Int.add_comm, Int.add_mul_ediv_right _ _ (by have := pow_pos n; omega), Int.add_comm]
  rw [half, h1]
  generalize p * 2 ^ (63 - n) = a
  generalize q / 2 ^ n = b
  omega
theorem quo_lt (N c x y : Int) (n : Nat) (h0 : 0 ≤ N) (hc : 1 ≤ c) (hN : N < c * 18446744073709551616) (hy : 0 ≤ y) (h : N / 2 ^ (n + 1) = c * x + y) : x < 9223372036854775808 := by
  have h1 : N / 2 ^ (n + 1) ≤ N / 2 := by
    rw [show (2 : Int) ^ (n + 1) = 2 * 2 ^ n from by rw [Int.pow_succ, Int.mul_comm], ← Int.ediv_ediv_of_nonneg (by omega)]
    exact Int.ediv_le_self _ (by omega)
  have h2 : c * x < c * 9223372036854775808 := by omega
  exact Int.lt_of_mul_lt_mul_left h2 (by omega)
theorem quo_up (M c x y t : Int) (h : M = 2 * (c * x + y) + t) (h1 : c ≤ y * 2 + t) : M = c * (x * 2 + 1) + (y * 2 + t - c) := by
  have e : c * (x * 2 + 1) = 2 * (c * x) + c := by rw [Int.mul_add, Int.mul_one, ← Int.mul_assoc]; omega
  rw [h, e]; omega
theorem quo_same (M c x y t : Int) (h : M = 2 * (c * x + y) + t) : M = c * (x * 2) + (y * 2 + t) := by
  have e : c * (x * 2) = 2 * (c * x) := by rw [← Int.mul_assoc]; omega
  rw [h, e]; omega
theorem quo_fin (N c x y : Int) (hc : 1 ≤ c) (h : N = c * x + y) (hy : 0 ≤ y) (hyc : y < c) : N / c = x ∧ N % c = y := by
  subst h
  constructor
  · rw [Int.add_comm, Int.add_mul_ediv_left _ _ (by omega), Int.ediv_eq_zero_of_lt hy hyc]; omega
  · rw [Int.add_comm, Int.add_mul_emod_self_left, Int.emod_eq_of_lt hy hyc]
theorem top_bit (x : Int) (h0 : 0 ≤ x) : (x / 9223372036854775808 == 0) = decide (x < 9223372036854775808) := by
  by_cases h : x < 9223372036854775808
  · rw [decide_eq_true h, beq_iff_eq]; omega
  · rw [decide_eq_false h, beq_eq_false_iff_ne]; omega
theorem big_lt (p q c : Int) (hpc : p < c) (q1 : q < 18446744073709551616) : p * 18446744073709551616 + q < c * 18446744073709551616 := by omega
end Go.Proofs.YtmjmoihggojpiaaDoor.Wd
