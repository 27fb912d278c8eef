/- The walk of wide's Floor. -/
import Derived.Test.YtmjmoihggojpiaaDoorWideWalkC
set_option linter.unusedSimpArgs false
set_option linter.unusedVariables false
namespace Go.Proofs.YtmjmoihggojpiaaDoor
open Go.RowKit

def floorOk (a b c : Int) : Bool := (small a && (small b && small c)) && decide (1 ≤ c) && small (a * b / c)
def floorV (a b c : Int) : Int := if floorOk a b c = true then a * b / c else 0

theorem floor_same (a b c : Int) (hs : (decide (a < 0) != decide (b < 0)) = false) : a * b = absI a * absI b := by
  unfold absI
  by_cases h1 : a < 0 <;> by_cases h2 : b < 0 <;> simp [h1, h2] at hs ⊢ <;> first | rw [Int.neg_mul_neg] | rw [Int.neg_mul, Int.neg_neg] | rw [Int.mul_neg, Int.neg_neg]
theorem floor_opp (a b : Int) (hs : (decide (a < 0) != decide (b < 0)) = true) : a * b = -(absI a * absI b) := by
  unfold absI
  by_cases h1 : a < 0 <;> by_cases h2 : b < 0 <;> simp [h1, h2] at hs ⊢ <;> first | rw [Int.neg_mul_neg] | rw [Int.neg_mul, Int.neg_neg] | rw [Int.mul_neg, Int.neg_neg]
theorem neg_div_more (N c : Int) (hc : 1 ≤ c) (h0 : 0 ≤ N) (hm : 0 < N % c) : -N / c = -(N / c) - 1 := by
  have e := Int.mul_ediv_add_emod N c
  have l := Int.emod_lt_of_pos N (show 0 < c by omega)
  generalize N / c = q at *
  generalize N % c = r at *
  rw [show -N = (c - r) + c * (-q - 1) from by rw [Int.mul_sub, Int.mul_neg, Int.mul_one]; omega, Int.add_mul_ediv_left _ _ (by omega), Int.ediv_eq_zero_of_lt (by omega) (by omega)]
  omega
theorem neg_div_none (N c : Int) (hc : 1 ≤ c) (hm : N % c = 0) : -N / c = -(N / c) := Int.neg_ediv_of_dvd (Int.dvd_of_emod_eq_zero hm)

theorem floorV_no (a b c : Int) (h : floorOk a b c = false) : floorV a b c = 0 := by unfold floorV; rw [h]; rfl
theorem floorV_yes (a b c : Int) (h : floorOk a b c = true) : floorV a b c = a * b / c := by unfold floorV; rw [if_pos h]

theorem floor_post (a b c : Int) (w : World) (v : Int) (k : Bool) (hv : floorV a b c = v) (hk : floorOk a b c = k)
    (h : Calls Tryd.prog 23 #[.int .i64 a, .int .i64 b, .int .i64 c] w fun e w' => e = .returned (.tuple #[.int .i64 v, .bool k]) ∧ Below w.heap.size w w') :
    Calls Tryd.prog 23 #[.int .i64 a, .int .i64 b, .int .i64 c] w fun e w' => e = .returned (.tuple #[.int .i64 (floorV a b c), .bool (floorOk a b c)]) ∧ Below w.heap.size w w' := by
  rw [hv, hk]; exact h

set_option maxHeartbeats 2000000 in
theorem floor_t (a b c : Int) (w : World) :
    Calls Tryd.prog 23 #[.int .i64 a, .int .i64 b, .int .i64 c] w fun e w' => e = .returned (.tuple #[.int .i64 (floorV a b c), .bool (floorOk a b c)]) ∧ Below w.heap.size w w' := by
  by_cases hbad : (small a && (small b && small c)) = false ∨ c < 1
  · have hk : floorOk a b c = false := by
      unfold floorOk
      rcases hbad with h | h
      · rw [h]; rfl
      · have : ¬ 1 ≤ c := by omega
        simp [this]
    refine floor_post a b c w _ _ (floorV_no a b c hk) hk ?_
    clear hk
    go_enter Tryd.func23, Tryd.ntmps23
    go_wp2_with fail
    refine (quotient_bad a b c _ hbad).mono ?_
    rintro e w1 ⟨rfl, hb1⟩
    go_wp2_with fail
    go_ret2
    exact ⟨rfl, hb1⟩
  · have hab : (small a && (small b && small c)) = true := by
      cases h : (small a && (small b && small c))
      · exact absurd (.inl h) hbad
      · rfl
    have hc1 : 1 ≤ c := by omega
    have hh := hab
    rw [Bool.and_eq_true, Bool.and_eq_true, small_iff, small_iff, small_iff] at hh
    obtain ⟨ha, hb, hc⟩ := hh
    have n0 : 0 ≤ absI a * absI b := Int.mul_nonneg (absI_bd a ha).1 (absI_bd b hb).1
    have hok : floorOk a b c = small (a * b / c) := by unfold floorOk; rw [hab]; simp [hc1]
    clear hbad hab
    by_cases hq : absI a * absI b / c < 9223372036854775808
    · by_cases hs : absI a * absI b / c ≤ 4611686018427387904
      · have q0 : 0 ≤ absI a * absI b / c := Int.ediv_nonneg n0 (by omega)
        have HS : Hid (small (absI a * absI b / c) = true) := (small_iff _).2 ⟨by omega, hs⟩
        cases hbl : (decide (a < 0) != decide (b < 0))
        · have e1 := floor_same a b c hbl
          rw [e1] at hok
          refine floor_post a b c w (absI a * absI b / c) true (by rw [floorV_yes a b c (by rw [hok]; exact HS.out), e1]) (by rw [hok]; exact HS.out) ?_
          have HQ := Lib.hid (quotient_ok a b c)
          rw [hbl] at HQ
          clear e1 hok n0
          generalize absI a * absI b / c = q at *
          have HB := Lib.hid hbl
          clear hbl
          go_enter Tryd.func23, Tryd.ntmps23
          go_wp2_with fail
          refine (HQ.out _ ha hb ⟨hc1, hc.2⟩ hq).mono ?_
          rintro e w1 ⟨rfl, hb1⟩
          go_wp2_with fail
          refine (small1 q _ _ _ (by go_simp)).mono ?_
          rintro e w2 ⟨rfl, rfl⟩
          rw [HS.out]
          go_wp2_with fail
          go_ret2
          exact ⟨rfl, hb1.alloc hb1.size _⟩
        · have e1 := floor_opp a b hbl
          have HQ := Lib.hid (quotient_ok a b c)
          rw [hbl] at HQ
          have HB := Lib.hid hbl
          clear hbl
          by_cases hm : 0 < absI a * absI b % c
          · have HM : Hid (decide (0 < absI a * absI b % c) = true) := by show _ = true; rw [decide_eq_true_iff]; exact hm
            have e2 : a * b / c = -(absI a * absI b / c) - 1 := by rw [e1]; exact neg_div_more _ _ hc1 n0 hm
            rw [e2] at hok
            have HF : Hid (floorV a b c = if small (-(absI a * absI b / c) - 1) = true then -(absI a * absI b / c) - 1 else 0) := by
              show _ = _
              unfold floorV; rw [hok, e2]
            rw [HM.out] at HQ
            clear e1 e2 n0 hm HM
            have HO := Lib.hid hok
            clear hok
            cases ht : small (-(absI a * absI b / c) - 1)
            · refine floor_post a b c w 0 false (by rw [HF.out, ht]; rfl) (by rw [HO.out, ht]) ?_
              clear HF HO
              generalize absI a * absI b / c = q at *
              have HT := Lib.hid ht
              clear ht
              go_enter Tryd.func23, Tryd.ntmps23
              go_wp2_with fail
              refine (HQ.out _ ha hb ⟨hc1, hc.2⟩ hq).mono ?_
              rintro e w1 ⟨rfl, hb1⟩
              go_wp2_with fail
              refine (small1 q _ _ _ (by go_simp)).mono ?_
              rintro e w2 ⟨rfl, rfl⟩
              rw [HS.out]
              go_wp2_with fail
              refine (told_far (-q - 1) _ HT.out).mono ?_
              rintro e w3 ⟨rfl, hb3⟩
              go_wp2_with fail
              go_ret2
              exact ⟨rfl, (hb1.alloc hb1.size _).trans (hb3.mono (by have := hb1.size; simp; omega))⟩
            · refine floor_post a b c w (-(absI a * absI b / c) - 1) true (by rw [HF.out, ht]; rfl) (by rw [HO.out, ht]) ?_
              clear HF HO
              generalize absI a * absI b / c = q at *
              have HT := Lib.hid ht
              clear ht
              go_enter Tryd.func23, Tryd.ntmps23
              go_wp2_with fail
              refine (HQ.out _ ha hb ⟨hc1, hc.2⟩ hq).mono ?_
              rintro e w1 ⟨rfl, hb1⟩
              go_wp2_with fail
              refine (small1 q _ _ _ (by go_simp)).mono ?_
              rintro e w2 ⟨rfl, rfl⟩
              rw [HS.out]
              go_wp2_with fail
              refine (told_yes (-q - 1) _ HT.out).mono ?_
              rintro e w3 ⟨rfl, hb3⟩
              go_wp2_with fail
              go_ret2
              exact ⟨rfl, (hb1.alloc hb1.size _).trans (hb3.mono (by have := hb1.size; simp; omega))⟩
          · have hm0 : absI a * absI b % c = 0 := by have := Int.emod_nonneg (absI a * absI b) (show c ≠ 0 by omega); omega
            have HM : Hid (decide (0 < absI a * absI b % c) = false) := by show _ = false; rw [decide_eq_false_iff_not]; exact hm
            have e2 : a * b / c = -(absI a * absI b / c) := by rw [e1]; exact neg_div_none _ _ hc1 hm0
            rw [e2] at hok
            have hsn : small (-(absI a * absI b / c)) = true := (small_iff _).2 ⟨by omega, by omega⟩
            refine floor_post a b c w (-(absI a * absI b / c)) true (by rw [floorV_yes a b c (by rw [hok]; exact hsn), e2]) (by rw [hok]; exact hsn) ?_
            rw [HM.out] at HQ
            clear e1 e2 n0 hm HM hok hsn hm0
            generalize absI a * absI b / c = q at *
            go_enter Tryd.func23, Tryd.ntmps23
            go_wp2_with fail
            refine (HQ.out _ ha hb ⟨hc1, hc.2⟩ hq).mono ?_
            rintro e w1 ⟨rfl, hb1⟩
            go_wp2_with fail
            refine (small1 q _ _ _ (by go_simp)).mono ?_
            rintro e w2 ⟨rfl, rfl⟩
            rw [HS.out]
            go_wp2_with fail
            go_ret2
            exact ⟨rfl, hb1.alloc hb1.size _⟩
      · have hk : floorOk a b c = false := by
          rw [hok, small_not]
          cases hbl : (decide (a < 0) != decide (b < 0))
          · rw [floor_same a b c hbl]; omega
          · rw [floor_opp a b hbl]
            by_cases hm : 0 < absI a * absI b % c
            · rw [neg_div_more _ _ hc1 n0 hm]; omega
            · rw [neg_div_none _ _ hc1 (by have := Int.emod_nonneg (absI a * absI b) (show c ≠ 0 by omega); omega)]; omega
        refine floor_post a b c w _ _ (floorV_no a b c hk) hk ?_
        have HS : Hid (small (absI a * absI b / c) = false) := by show _ = false; rw [small_not]; omega
        have HQ := Lib.hid (quotient_ok a b c)
        clear hk hok n0
        generalize absI a * absI b / c = q at *
        generalize absI a * absI b % c = r at *
        generalize (decide (a < 0) != decide (b < 0)) = bl at *
        go_enter Tryd.func23, Tryd.ntmps23
        go_wp2_with fail
        refine (HQ.out _ ha hb ⟨hc1, hc.2⟩ hq).mono ?_
        rintro e w1 ⟨rfl, hb1⟩
        go_wp2_with fail
        refine (small1 q _ _ _ (by go_simp)).mono ?_
        rintro e w2 ⟨rfl, rfl⟩
        rw [HS.out]
        go_wp2_with fail
        go_ret2
        exact ⟨rfl, hb1.alloc hb1.size _⟩
    · have hk : floorOk a b c = false := by
        rw [hok, small_not]
        cases hbl : (decide (a < 0) != decide (b < 0))
        · rw [floor_same a b c hbl]; omega
        · rw [floor_opp a b hbl]
          by_cases hm : 0 < absI a * absI b % c
          · rw [neg_div_more _ _ hc1 n0 hm]; omega
          · rw [neg_div_none _ _ hc1 (by have := Int.emod_nonneg (absI a * absI b) (show c ≠ 0 by omega); omega)]; omega
      refine floor_post a b c w _ _ (floorV_no a b c hk) hk ?_
      have HQ := Lib.hid (quotient_far a b c)
      clear hk hok n0
      generalize (decide (a < 0) != decide (b < 0)) = bl at *
      go_enter Tryd.func23, Tryd.ntmps23
      go_wp2_with fail
      refine (HQ.out _ ha hb ⟨hc1, hc.2⟩ (by omega)).mono ?_
      rintro e w1 ⟨v, m, rfl, hb1⟩
      go_wp2_with fail
      go_ret2
      exact ⟨rfl, hb1⟩

end Go.Proofs.YtmjmoihggojpiaaDoor
