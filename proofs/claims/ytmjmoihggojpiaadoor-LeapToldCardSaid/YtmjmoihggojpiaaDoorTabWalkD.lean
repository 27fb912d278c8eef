/- The walks of civil.Day at a day that is one, of Right, and of a table's Note. -/
import Derived.Test.YtmjmoihggojpiaaDoorTabWalkC
set_option linter.unusedSimpArgs false
set_option linter.unusedVariables false
namespace Go.Proofs.YtmjmoihggojpiaaDoor
open Go.RowKit Civ
attribute [local go_sem] isSome_setCell

set_option maxHeartbeats 1000000 in
theorem day_t (y m d : Int) (w : World) (hy1 : 1970 ≤ y) (hy2 : y ≤ 9999) (hm1 : 1 ≤ m) (hm2 : m ≤ 12) (hd1 : 1 ≤ d) (hd2 : d ≤ long y m) :
    Calls Tryd.prog 26 #[.int .i64 y, .int .i64 m, .int .i64 d] w fun e w' => e = .returned (.tuple #[.int .i64 (num y m d), .bool true]) ∧ Below w.heap.size w w' := by
  have lb := long_bd y m
  have ab := ahead_bd y hy1 (by omega)
  have HN : Hid (num y m d = aheadY y + cum y m + d - 1) := rfl
  go_enter Tryd.func26, Tryd.ntmps26
  go_wp2_with fail
  refine (long_t y m _ (by omega) (by omega) hm1 hm2).mono ?_
  rintro e w1 ⟨rfl, hb1⟩
  go_wp2_with fail
  refine (ahead_t y _ (by omega) (by omega)).mono ?_
  rintro e w1' ⟨rfl, rfl⟩
  go_wp2_with fail
  go_loopw [8, 9] (fun v k wr => ∃ j : Int, 1 ≤ j ∧ j ≤ m ∧ k = .int .i64 j ∧ v = .int .i64 (aheadY y + d - 1 + cum y j) ∧ Below w.heap.size w wr) (fun _ k _ => (m - intOf k).toNat)
  case atStart => exact ⟨1, by omega, hm1, rfl, by rw [cum_one]; simp, hb1⟩
  case round =>
    obtain ⟨j, hj1, hj2, rfl, rfl, hb⟩ := hrel
    have cb := cum_bd y j
    have lj := long_bd y j
    by_cases hlt : j < m
    · have HC := Lib.hid (cum_succ y j hj1 (by omega))
      go_wp2_with (go_at_call 41; refine (long_t y j _ (by omega) (by omega) hj1 (by omega)).mono ?_; rintro e w2 ⟨rfl, hb2⟩)
      go_roundw
      case rel => exact ⟨j + 1, by omega, by omega, rfl, by rw [HC.out]; go_num, hb.trans (hb2.mono hb.size)⟩
      case measure => simp [intOf]; omega
    · obtain rfl : j = m := by omega
      go_wp2
      go_ret2
      exact ⟨congrArg (fun x => Ending.returned (.tuple #[.int .i64 x, .bool true])) (by rw [HN.out]; omega), hb⟩

set_option maxHeartbeats 1000000 in
theorem right_t (y m d h mi s : Int) (w : World) (hy1 : 1970 ≤ y) (hy2 : y ≤ 9999) (hm1 : 1 ≤ m) (hm2 : m ≤ 12) (hd1 : 1 ≤ d) (hd2 : d ≤ long y m)
    (h1 : 0 ≤ h) (h2 : h < 24) (h3 : 0 ≤ mi) (h4 : mi < 60) (h5 : 0 ≤ s) (h6 : s < 60) :
    Calls Tryd.prog 31 #[.agg #[.int .i64 y, .int .i64 m, .int .i64 d, .int .i64 h, .int .i64 mi, .int .i64 s]] w fun e w' => e = .returned (.bool true) ∧ Below w.heap.size w w' := by
  have hs : (s == 60) = false := by rw [beq_eq_false_iff_ne]; omega
  go_enter Tryd.func31, Tryd.ntmps31
  go_wp2_with fail
  refine (day_t y m d _ hy1 hy2 hm1 hm2 hd1 hd2).mono ?_
  rintro e w1 ⟨rfl, hb1⟩
  obtain ⟨hc1, hf1⟩ := bone hb1 w.heap.size (by simp)
  by_cases g1 : h = 23
  · by_cases g2 : mi = 59
    all_goals
      go_wp2_with fail
      go_ret
      exact ⟨rfl, ((Below.refl _ _).alloc (Nat.le_refl _) _).trans (hb1.mono (by simp))⟩
  · go_wp2_with fail
    go_ret
    exact ⟨rfl, ((Below.refl _ _).alloc (Nat.le_refl _) _).trans (hb1.mono (by simp))⟩

set_option maxHeartbeats 1000000 in
theorem right_leap (y m d : Int) (w : World) (hy1 : 1970 ≤ y) (hy2 : y ≤ 9999) (hm1 : 1 ≤ m) (hm2 : m ≤ 12) (hd1 : 1 ≤ d) (hd2 : d ≤ long y m) :
    Calls Tryd.prog 31 #[.agg #[.int .i64 y, .int .i64 m, .int .i64 d, .int .i64 23, .int .i64 59, .int .i64 60]] w fun e w' => e = .returned (.bool true) ∧ Below w.heap.size w w' := by
  go_enter Tryd.func31, Tryd.ntmps31
  go_wp2_with fail
  refine (day_t y m d _ hy1 hy2 hm1 hm2 hd1 hd2).mono ?_
  rintro e w1 ⟨rfl, hb1⟩
  obtain ⟨hc1, hf1⟩ := bone hb1 w.heap.size (by simp)
  go_wp2_with fail
  go_ret
  exact ⟨rfl, ((Below.refl _ _).alloc (Nat.le_refl _) _).trans (hb1.mono (by simp))⟩
end Go.Proofs.YtmjmoihggojpiaaDoor
