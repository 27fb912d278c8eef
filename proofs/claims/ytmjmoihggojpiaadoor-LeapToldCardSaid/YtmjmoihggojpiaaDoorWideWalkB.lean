/- The walks of wide's product and divided. -/
import Derived.Test.YtmjmoihggojpiaaDoorWideWalkA
import Derived.Test.YtmjmoihggojpiaaDoorWidePlain
set_option linter.unusedSimpArgs false
set_option linter.unusedVariables false
namespace Go.Proofs.YtmjmoihggojpiaaDoor
open Go.RowKit

theorem prod_bd (x y p q : Int) (hx0 : 0 ≤ x) (hx : x ≤ p) (hy0 : 0 ≤ y) (hy : y ≤ q) : 0 ≤ x * y ∧ x * y ≤ p * q :=
  ⟨Int.mul_nonneg hx0 hy0, Int.mul_le_mul hx hy hy0 (by omega)⟩
theorem prod_cut (a b : Int) : a * b = a / 4294967296 * (b / 4294967296) * 18446744073709551616 + (a / 4294967296 * (b % 4294967296) + a % 4294967296 * (b / 4294967296)) * 4294967296 + a % 4294967296 * (b % 4294967296) := by
  have ea := Int.mul_ediv_add_emod a 4294967296
  have eb := Int.mul_ediv_add_emod b 4294967296
  generalize a / 4294967296 = x at *
  generalize a % 4294967296 = y at *
  generalize b / 4294967296 = z at *
  generalize b % 4294967296 = t at *
  rw [← ea, ← eb]
  simp only [Int.mul_add, Int.add_mul]
  have e1 : 4294967296 * x * (4294967296 * z) = x * z * 18446744073709551616 := by
    rw [Int.mul_assoc, Int.mul_left_comm x, ← Int.mul_assoc, Int.mul_comm]; rfl
  have e2 : 4294967296 * x * t = x * t * 4294967296 := by rw [Int.mul_assoc, Int.mul_comm]
  have e3 : y * (4294967296 * z) = y * z * 4294967296 := by rw [Int.mul_left_comm, Int.mul_comm]
  rw [e1, e2, e3]; omega
theorem prod_parts (P one two low : Int) (h0 : 0 ≤ low) (h1 : 0 ≤ one) (h2 : 0 ≤ two) :
    (P * 18446744073709551616 + (one + two) * 4294967296 + low) / 18446744073709551616 = P + one / 4294967296 + two / 4294967296 + (low / 4294967296 + one % 4294967296 + two % 4294967296) / 4294967296 ∧
    (P * 18446744073709551616 + (one + two) * 4294967296 + low) % 18446744073709551616 = (low / 4294967296 + one % 4294967296 + two % 4294967296) * 4294967296 % 18446744073709551616 + low % 4294967296 := by
  constructor <;> omega
theorem wrap_u64 (n : Int) : IntKind.u64.wrap n = n % 18446744073709551616 := by simp [IntKind.wrap, IntKind.bits, IntKind.signed]
theorem wraps_u64 (n : Int) (h₀ : 0 ≤ n) (h₁ : n < 2 ^ 64) : IntKind.u64.wrap n = n := by rw [wrap_u64]; omega

set_option maxHeartbeats 1000000 in
theorem product_t (a b : Int) (w : World) (a0 : 0 ≤ a) (a1 : a ≤ 4611686018427387904) (b0 : 0 ≤ b) (b1 : b ≤ 4611686018427387904) :
    Calls Tryd.prog 47 #[.int .u64 a, .int .u64 b] w fun e w' => e = .returned (.agg #[.int .u64 (a * b / 18446744073709551616), .int .u64 (a * b % 18446744073709551616)]) ∧ Below w.heap.size w w' := by
  have HC := Lib.hid (prod_cut a b)
  have m1 := and_low32 a a0 (by omega)
  have m2 := and_low32 b b0 (by omega)
  have x0 : 0 ≤ a / 4294967296 ∧ a / 4294967296 ≤ 1073741824 := by omega
  have x1 : 0 ≤ a % 4294967296 ∧ a % 4294967296 ≤ 4294967295 := by omega
  have y0 : 0 ≤ b / 4294967296 ∧ b / 4294967296 ≤ 1073741824 := by omega
  have y1 : 0 ≤ b % 4294967296 ∧ b % 4294967296 ≤ 4294967295 := by omega
  have p1 := prod_bd _ _ _ _ x0.1 x0.2 y0.1 y0.2
  have p2 := prod_bd _ _ _ _ x0.1 x0.2 y1.1 y1.2
  have p3 := prod_bd _ _ _ _ x1.1 x1.2 y0.1 y0.2
  have p4 := prod_bd _ _ _ _ x1.1 x1.2 y1.1 y1.2
  clear x0 x1 y0 y1
  obtain ⟨P, hP⟩ : ∃ P, a / 4294967296 * (b / 4294967296) = P := ⟨_, rfl⟩
  obtain ⟨one, hone⟩ : ∃ P, a / 4294967296 * (b % 4294967296) = P := ⟨_, rfl⟩
  obtain ⟨two, htwo⟩ : ∃ P, a % 4294967296 * (b / 4294967296) = P := ⟨_, rfl⟩
  obtain ⟨low, hlow⟩ : ∃ P, a % 4294967296 * (b % 4294967296) = P := ⟨_, rfl⟩
  rw [hP] at p1; rw [hone] at p2; rw [htwo] at p3; rw [hlow] at p4
  obtain ⟨p1, p1'⟩ := p1; obtain ⟨p2, p2'⟩ := p2; obtain ⟨p3, p3'⟩ := p3; obtain ⟨p4, p4'⟩ := p4
  have HC : Hid (a * b = P * 18446744073709551616 + (one + two) * 4294967296 + low) := by rw [← hP, ← hone, ← htwo, ← hlow]; exact HC
  have HQ := Lib.hid (prod_parts P one two low p4 p2 p3)
  have m3 := and_low32 one p2 (by omega)
  have m4 := and_low32 two p3 (by omega)
  have m5 := and_low32 low p4 (by omega)
  have m6 : bits BinOp.or IntKind.u64 (IntKind.u64.wrap ((low / 4294967296 + one % 4294967296 + two % 4294967296) * 4294967296)) (low % 4294967296) = (low / 4294967296 + one % 4294967296 + two % 4294967296) * 4294967296 % 18446744073709551616 + low % 4294967296 := by
    rw [wrap_u64]
    exact bits_join .u64 64 (by decide) wraps_u64 32 _ _ (by omega) (by omega) (by omega) (by omega) (by omega) (by omega)
  go_enter Tryd.func47, Tryd.ntmps47
  go_wp2_with fail
  exact bodyPost_ret (v := .agg #[.int .u64 (P + one / 4294967296 + two / 4294967296 + (low / 4294967296 + one % 4294967296 + two % 4294967296) / 4294967296), .int .u64 ((low / 4294967296 + one % 4294967296 + two % 4294967296) * 4294967296 % 18446744073709551616 + low % 4294967296)])
    (by simp [results, Tryd.results47, go_sem]) rfl ⟨by rw [HC.out, HQ.out.1, HQ.out.2], (Below.refl _ _).alloc (Nat.le_refl _) _⟩

theorem or_bit (y t : Int) (h0 : 0 ≤ y) (h1 : y < 9223372036854775808) (t0 : 0 ≤ t) (t1 : t ≤ 1) : bits BinOp.or IntKind.u64 (y * 2) t = y * 2 + t :=
  bits_join .u64 64 (by decide) wraps_u64 1 _ _ (by omega) (by omega) (by omega) (by omega) (by omega) (by omega)

set_option maxHeartbeats 2000000 in
theorem divided_t (p q c : Int) (w : World) (p0 : 0 ≤ p) (q0 : 0 ≤ q) (q1 : q < 18446744073709551616) (c0 : 1 ≤ c) (c1 : c ≤ 4611686018427387904) (hpc : p < c) :
    Calls Tryd.prog 46 #[.agg #[.int .u64 p, .int .u64 q], .int .u64 c] w fun e w' => e = .returned (.tuple #[.int .u64 ((p * 18446744073709551616 + q) / c), .int .u64 ((p * 18446744073709551616 + q) % c), .bool (decide ((p * 18446744073709551616 + q) / c < 9223372036854775808))]) ∧ Below w.heap.size w w' := by
  obtain ⟨N, hN⟩ : ∃ N, N = p * 18446744073709551616 + q := ⟨_, rfl⟩
  rw [← hN]
  have HN := Lib.hid hN
  have N0 : 0 ≤ N := by omega
  have NB := Lib.hid (show N < c * 18446744073709551616 by omega)
  have H0 : Hid (N / 2 ^ (63 + 1) = c * 0 + p) := by
    show N / 18446744073709551616 = c * 0 + p
    omega
  clear hN
  go_enter Tryd.func46, Tryd.ntmps46
  go_wp2_with fail
  go_step3
  go_wp2_with fail
  go_step3
  go_wp2_with fail
  go_loop [4, 5, 7] (fun u l k => ∃ (n : Nat) (x y : Int), n ≤ 63 ∧ k = .int .i64 n ∧ u = .int .u64 x ∧ l = .int .u64 y ∧ 0 ≤ x ∧ 0 ≤ y ∧ y < c ∧ Hid (N / 2 ^ (n + 1) = c * x + y)) (fun _ _ k => (intOf k).toNat)
  case atStart => exact ⟨63, 0, p, by omega, rfl, rfl, rfl, by omega, p0, hpc, H0⟩
  case round =>
    obtain ⟨n, x, y, hn, rfl, rfl, rfl, hx, hy, hyc, HR⟩ := hrel
    clear H0
    have hx1 := Wd.quo_lt N c x y n N0 c0 NB.out hy HR.out
    have HB : Hid (N / 2 ^ n = 2 * (c * x + y) + q / 2 ^ n % 2) := by
      have := Wd.bit_step p q n hn
      rw [← HN.out, HR.out] at this; exact this
    have qn0 : 0 ≤ q / 2 ^ n := Int.ediv_nonneg q0 (Int.le_of_lt (Wd.pow_pos n))
    have qn1 : q / 2 ^ n ≤ 18446744073709551615 := by have := Int.ediv_le_self (2 ^ n) q0; omega
    have r1 := and_one_u64 (q / 2 ^ n) qn0 qn1
    obtain ⟨t, ht⟩ : ∃ t, q / 2 ^ n % 2 = t := ⟨_, rfl⟩
    have t0 : 0 ≤ t := by omega
    have t1 : t ≤ 1 := by omega
    rw [ht] at HB r1
    have HT := Lib.hid ht
    clear ht qn0 qn1
    have r2 := or_bit y t hy (by omega) t0 t1
    have r3 := or_bit x 1 hx hx1 (by omega) (by omega)
    by_cases hc : c ≤ y * 2 + t
    · have HM : Hid (N / 2 ^ n = c * (x * 2 + 1) + (y * 2 + t - c)) := Wd.quo_up _ c x y t HB.out hc
      by_cases hn0 : n = 0
      · subst hn0
        have r1 : bits BinOp.and IntKind.u64 q 1 = t := by simpa using r1
        have HF := Lib.hid (Wd.quo_fin N c (x * 2 + 1) (y * 2 + t - c) c0 (by have := HM.out; simpa using this) (by omega) (by omega))
        have HT := Lib.hid (Wd.top_bit (x * 2 + 1) (by omega))
        go_wp2
        exact bodyPost_ret (v := .tuple #[.int .u64 (x * 2 + 1), .int .u64 (y * 2 + t - c), .bool ((x * 2 + 1) / 9223372036854775808 == 0)]) (by simp [results, Tryd.results46, go_sem]) rfl
          ⟨by rw [HF.out.1, HF.out.2, HT.out], (Below.refl _ _).alloc (Nat.le_refl _) _⟩
      · have hz : ((n : Int) == 0) = false := by rw [beq_eq_false_iff_ne]; omega
        go_wp2
        go_round
        case rel => exact ⟨n - 1, x * 2 + 1, y * 2 + t - c, by omega, by go_num, rfl, rfl, by omega, by omega, by omega, by rw [show n - 1 + 1 = n from by omega]; exact HM⟩
        case measure => simp [intOf]; omega
    · have HM : Hid (N / 2 ^ n = c * (x * 2) + (y * 2 + t)) := Wd.quo_same _ c x y t HB.out
      by_cases hn0 : n = 0
      · subst hn0
        have r1 : bits BinOp.and IntKind.u64 q 1 = t := by simpa using r1
        have HF := Lib.hid (Wd.quo_fin N c (x * 2) (y * 2 + t) c0 (by have := HM.out; simpa using this) (by omega) (by omega))
        have HT := Lib.hid (Wd.top_bit (x * 2) (by omega))
        go_wp2
        exact bodyPost_ret (v := .tuple #[.int .u64 (x * 2), .int .u64 (y * 2 + t), .bool ((x * 2) / 9223372036854775808 == 0)]) (by simp [results, Tryd.results46, go_sem]) rfl
          ⟨by rw [HF.out.1, HF.out.2, HT.out], (Below.refl _ _).alloc (Nat.le_refl _) _⟩
      · have hz : ((n : Int) == 0) = false := by rw [beq_eq_false_iff_ne]; omega
        go_wp2
        go_round
        case rel => exact ⟨n - 1, x * 2, y * 2 + t, by omega, by go_num, rfl, rfl, by omega, by omega, by omega, by rw [show n - 1 + 1 = n from by omega]; exact HM⟩
        case measure => simp [intOf]; omega
end Go.Proofs.YtmjmoihggojpiaaDoor
