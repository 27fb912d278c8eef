/- The walks of wide's quotient and Floor. -/
import Derived.Test.YtmjmoihggojpiaaDoorWideWalkB
set_option linter.unusedSimpArgs false
set_option linter.unusedVariables false
namespace Go.Proofs.YtmjmoihggojpiaaDoor
open Go.RowKit

theorem bcell2 {W w1 : World} (hb : Below W.heap.size W w1) : (∀ b o, b < W.heap.size → w1.cell? ⟨b, o, none⟩ = W.cell? ⟨b, o, none⟩) ∧ (∀ b o, b < W.heap.size → w1.frozen? ⟨b, o, none⟩ = W.frozen? ⟨b, o, none⟩) :=
  ⟨fun b o h => hb.cell (p := ⟨b, o, none⟩) h, fun b o h => hb.frozen (p := ⟨b, o, none⟩) h⟩

theorem divided_far (p q c : Int) (w : World) (hpc : c ≤ p) :
    Calls Tryd.prog 46 #[.agg #[.int .u64 p, .int .u64 q], .int .u64 c] w fun e w' => e = .returned (.tuple #[.int .u64 0, .int .u64 0, .bool false]) ∧ Below w.heap.size w w' := by
  go_enter Tryd.func46, Tryd.ntmps46
  go_wp2_with fail
  go_step3
  go_wp2_with fail
  rw [Exit.noGoto_ret]
  exact bodyPost_ret (v := .tuple #[.int .u64 0, .int .u64 0, .bool false]) (by simp [results, Tryd.results46, go_sem]) rfl ⟨rfl, (Below.refl _ _).alloc (Nat.le_refl _) _⟩

theorem absI_bd (a : Int) (h : -4611686018427387904 ≤ a ∧ a ≤ 4611686018427387904) : 0 ≤ absI a ∧ absI a ≤ 4611686018427387904 := by
  unfold absI; split <;> omega

set_option maxHeartbeats 1000000 in
theorem quotient_bad (a b c : Int) (w : World) (h : (small a && (small b && small c)) = false ∨ c < 1) :
    Calls Tryd.prog 36 #[.int .i64 a, .int .i64 b, .int .i64 c] w fun e w' => e = .returned (.tuple #[.int .i64 0, .bool false, .bool false, .bool false]) ∧ Below w.heap.size w w' := by
  by_cases hs : (small a && (small b && small c)) = false
  · have HS := Lib.hid hs; clear hs h
    go_enter Tryd.func36, Tryd.ntmps36
    go_wp2_with (go_at_call 27; refine (small3 a b c _ _ _ (by go_simp) (by go_simp) (by go_simp)).mono ?_; rintro e w' ⟨rfl, rfl⟩; rw [HS.out])
    exact bodyPost_ret (v := .tuple #[.int .i64 0, .bool false, .bool false, .bool false]) (by simp [results, Tryd.results36, go_sem]) rfl ⟨rfl, (Below.refl _ _).alloc (Nat.le_refl _) _⟩
  · have HS : Hid ((small a && (small b && small c)) = true) := by
      cases h : (small a && (small b && small c))
      · exact absurd h hs
      · exact (rfl : true = true)
    have hc : c < 1 := by
      rcases h with h | h
      · exact absurd h hs
      · exact h
    clear hs h
    go_enter Tryd.func36, Tryd.ntmps36
    go_wp2_with (go_at_call 27; refine (small3 a b c _ _ _ (by go_simp) (by go_simp) (by go_simp)).mono ?_; rintro e w' ⟨rfl, rfl⟩; rw [HS.out])
    exact bodyPost_ret (v := .tuple #[.int .i64 0, .bool false, .bool false, .bool false]) (by simp [results, Tryd.results36, go_sem]) rfl ⟨rfl, (Below.refl _ _).alloc (Nat.le_refl _) _⟩

theorem neq_bool (x y : Bool) (w : World) : (binOp .neq 4 (.bool x) (.bool y)).run Tryd.prog w = .ok (.bool (x != y)) w := by
  cases x <;> cases y <;> kernel_rfl

set_option maxHeartbeats 2000000 in
theorem quotient_ok (a b c : Int) (w : World) (ha : -4611686018427387904 ≤ a ∧ a ≤ 4611686018427387904) (hb : -4611686018427387904 ≤ b ∧ b ≤ 4611686018427387904) (hc : 1 ≤ c ∧ c ≤ 4611686018427387904) (hq : absI a * absI b / c < 9223372036854775808) :
    Calls Tryd.prog 36 #[.int .i64 a, .int .i64 b, .int .i64 c] w fun e w' => e = .returned (.tuple #[.int .i64 (absI a * absI b / c), .bool (decide (a < 0) != decide (b < 0)), .bool (decide (0 < absI a * absI b % c)), .bool true]) ∧ Below w.heap.size w w' := by
  obtain ⟨c0, c1⟩ := hc
  have HS : Hid ((small a && (small b && small c)) = true) := by
    show _ = true
    rw [(small_iff a).2 ha, (small_iff b).2 hb, (small_iff c).2 ⟨by omega, c1⟩]; rfl
  have xa := absI_bd a ha
  have xb := absI_bd b hb
  have HN : Hid (absI a * absI b = absI a * absI b / 18446744073709551616 * 18446744073709551616 + absI a * absI b % 18446744073709551616) := by
    show _ = _; omega
  have n0 : 0 ≤ absI a * absI b := Int.mul_nonneg xa.1 xb.1
  have HL : Hid (absI a * absI b / 18446744073709551616 < c) := by
    show _ < _
    have := Int.lt_ediv_add_one_mul_self (absI a * absI b) (show 0 < c by omega)
    have h2 : (absI a * absI b / c + 1) * c ≤ 9223372036854775808 * c := Int.mul_le_mul_of_nonneg_right (by omega) (by omega)
    omega
  have HQ : Hid (absI a * absI b / c < 9223372036854775808) := hq
  have q0 : 0 ≤ absI a * absI b / c := Int.ediv_nonneg n0 (by omega)
  have HT : Hid (decide (absI a * absI b / c < 9223372036854775808) = true) := by show _ = true; rw [decide_eq_true_iff]; exact hq
  clear hq
  obtain ⟨x, hx⟩ : ∃ x, absI a = x := ⟨_, rfl⟩
  obtain ⟨y, hy⟩ : ∃ y, absI b = y := ⟨_, rfl⟩
  rw [hx] at xa HN n0 HL HQ q0 HT ⊢
  rw [hy] at xb HN n0 HL HQ q0 HT ⊢
  have HX := Lib.hid hx
  have HY := Lib.hid hy
  clear hx hy
  obtain ⟨xa0, xa1⟩ := xa
  obtain ⟨xb0, xb1⟩ := xb
  go_enter Tryd.func36, Tryd.ntmps36
  go_wp2_with fail
  refine (small3 a b c _ _ _ (by go_simp) (by go_simp) (by go_simp)).mono ?_
  rintro e w1 ⟨rfl, rfl⟩
  rw [HS.out]
  go_wp2_with fail
  refine (abs_t a _ ha.1 ha.2).mono ?_
  rintro e w1 ⟨rfl, hb1⟩
  rw [HX.out]
  go_wp2_with fail
  refine (abs_t b _ hb.1 hb.2).mono ?_
  rintro e w2 ⟨rfl, hb2⟩
  rw [HY.out]
  go_wp2_with fail
  refine (product_t x y _ xa0 xa1 xb0 xb1).mono ?_
  rintro e w3 ⟨rfl, hb3⟩
  go_wp2_with fail
  refine (divided_t (x * y / 18446744073709551616) (x * y % 18446744073709551616) c _ (by omega) (by omega) (by omega) c0 c1 HL.out).mono ?_
  rintro e w4 ⟨rfl, hb4⟩
  rw [← HN.out, HT.out]
  have hq := HQ.out
  have hne := fun (x y : Bool) (w : World) => neq_bool x y w
  go_wp2_with fail
  refine bodyPost_ret (v := .tuple #[.int .i64 (x * y / c), .bool (decide (a < 0) != decide (b < 0)), .bool (decide (0 < x * y % c)), .bool true]) (by simp [results, Tryd.results36, go_sem]) rfl ⟨rfl, ?_⟩
  exact ((((((Below.refl _ _).alloc (Nat.le_refl _) _).trans (hb1.mono (by simp))).trans (hb2.mono (by have := hb1.size; simp at this; omega))).trans (hb3.mono (by have := hb1.size; have := hb2.size; simp at *; omega))).trans (hb4.mono (by have := hb1.size; have := hb2.size; have := hb3.size; simp at *; omega)))

set_option maxHeartbeats 2000000 in
theorem quotient_far (a b c : Int) (w : World) (ha : -4611686018427387904 ≤ a ∧ a ≤ 4611686018427387904) (hb : -4611686018427387904 ≤ b ∧ b ≤ 4611686018427387904) (hc : 1 ≤ c ∧ c ≤ 4611686018427387904) (hq : 9223372036854775808 ≤ absI a * absI b / c) :
    Calls Tryd.prog 36 #[.int .i64 a, .int .i64 b, .int .i64 c] w fun e w' => ∃ v m, e = .returned (.tuple #[.int .i64 v, .bool (decide (a < 0) != decide (b < 0)), .bool m, .bool false]) ∧ Below w.heap.size w w' := by
  obtain ⟨c0, c1⟩ := hc
  have HS : Hid ((small a && (small b && small c)) = true) := by
    show _ = true
    rw [(small_iff a).2 ha, (small_iff b).2 hb, (small_iff c).2 ⟨by omega, c1⟩]; rfl
  have xa := absI_bd a ha
  have xb := absI_bd b hb
  have HN : Hid (absI a * absI b = absI a * absI b / 18446744073709551616 * 18446744073709551616 + absI a * absI b % 18446744073709551616) := by
    show _ = _; omega
  have n0 : 0 ≤ absI a * absI b := Int.mul_nonneg xa.1 xb.1
  have HT : Hid (decide (absI a * absI b / c < 9223372036854775808) = false) := by show _ = false; rw [decide_eq_false_iff_not]; omega
  clear hq
  obtain ⟨x, hx⟩ : ∃ x, absI a = x := ⟨_, rfl⟩
  obtain ⟨y, hy⟩ : ∃ y, absI b = y := ⟨_, rfl⟩
  rw [hx] at xa HN n0 HT
  rw [hy] at xb HN n0 HT
  have HX := Lib.hid hx
  have HY := Lib.hid hy
  clear hx hy
  obtain ⟨xa0, xa1⟩ := xa
  obtain ⟨xb0, xb1⟩ := xb
  go_enter Tryd.func36, Tryd.ntmps36
  go_wp2_with fail
  refine (small3 a b c _ _ _ (by go_simp) (by go_simp) (by go_simp)).mono ?_
  rintro e w1 ⟨rfl, rfl⟩
  rw [HS.out]
  go_wp2_with fail
  refine (abs_t a _ ha.1 ha.2).mono ?_
  rintro e w1 ⟨rfl, hb1⟩
  rw [HX.out]
  go_wp2_with fail
  refine (abs_t b _ hb.1 hb.2).mono ?_
  rintro e w2 ⟨rfl, hb2⟩
  rw [HY.out]
  go_wp2_with fail
  refine (product_t x y _ xa0 xa1 xb0 xb1).mono ?_
  rintro e w3 ⟨rfl, hb3⟩
  have hne := fun (x y : Bool) (w : World) => neq_bool x y w
  by_cases hpc : c ≤ x * y / 18446744073709551616
  · go_wp2_with fail
    refine (divided_far (x * y / 18446744073709551616) (x * y % 18446744073709551616) c _ hpc).mono ?_
    rintro e w4 ⟨rfl, hb4⟩
    go_wp2_with fail
    refine bodyPost_ret (v := .tuple #[.int .i64 0, .bool (decide (a < 0) != decide (b < 0)), .bool false, .bool false]) (by simp [results, Tryd.results36, go_sem]) rfl ⟨_, _, rfl, ?_⟩
    exact ((((((Below.refl _ _).alloc (Nat.le_refl _) _).trans (hb1.mono (by simp))).trans (hb2.mono (by have := hb1.size; simp at this; omega))).trans (hb3.mono (by have := hb1.size; have := hb2.size; simp at *; omega))).trans (hb4.mono (by have := hb1.size; have := hb2.size; have := hb3.size; simp at *; omega)))
  · go_wp2_with fail
    refine (divided_t (x * y / 18446744073709551616) (x * y % 18446744073709551616) c _ (by omega) (by omega) (by omega) c0 c1 (by omega)).mono ?_
    rintro e w4 ⟨rfl, hb4⟩
    rw [← HN.out, HT.out]
    go_wp2_with fail
    refine bodyPost_ret (v := .tuple #[.int .i64 (wrap64 (x * y / c)), .bool (decide (a < 0) != decide (b < 0)), .bool (decide (0 < x * y % c)), .bool false]) (by simp [results, Tryd.results36, go_sem]) rfl ⟨_, _, rfl, ?_⟩
    exact ((((((Below.refl _ _).alloc (Nat.le_refl _) _).trans (hb1.mono (by simp))).trans (hb2.mono (by have := hb1.size; simp at this; omega))).trans (hb3.mono (by have := hb1.size; have := hb2.size; simp at *; omega))).trans (hb4.mono (by have := hb1.size; have := hb2.size; have := hb3.size; simp at *; omega)))
end Go.Proofs.YtmjmoihggojpiaaDoor
