/- The walks of civil's small functions: Leap, Long, ahead, and of the reference's Leap, Long, yearly. -/
import Derived.Test.YtmjmoihggojpiaaDoorProg
import Derived.Test.YtmjmoihggojpiaaDoorCivPlain
import Derived.WalkKit
import Derived.WalkLawsBesides
import Derived.BigQuiet
import Derived.Deep.QuietTactic
import Derived.Lib.Hide
set_option linter.unusedSimpArgs false
set_option linter.unusedVariables false
namespace Go.Proofs.YtmjmoihggojpiaaDoor
open Go.RowKit Civ

theorem leap_t (y : Int) (w : World) (h1 : 1 ≤ y) (h2 : y ≤ 10000) :
    Calls Tryd.prog 51 #[.int .i64 y] w fun e w' => e = .returned (.bool (leapB y)) ∧ w = w' := by
  by_cases a : y % 4 = 0 <;> by_cases b : y % 100 = 0 <;> by_cases c : y % 400 = 0
  all_goals
    have HF : Hid (leapB y = ((decide (y % 4 = 0) && !decide (y % 100 = 0)) || decide (y % 400 = 0))) := rfl
    go_enter Tryd.func51, Tryd.ntmps51
    go_wp2
    go_ret
    exact ⟨by rw [HF.out]; simp [a, b, c], rfl⟩

theorem refLeap_t (y : Int) (w : World) (h1 : 1 ≤ y) (h2 : y ≤ 10000) :
    Calls Tryd.prog 53 #[.int .i64 y] w fun e w' => e = .returned (.bool (leapB y)) ∧ w = w' := by
  have HF : Hid (leapB y = ((decide (y % 4 = 0) && !decide (y % 100 = 0)) || decide (y % 400 = 0))) := rfl
  by_cases c : y % 400 = 0
  · go_enter Tryd.func53, Tryd.ntmps53
    go_wp2
    go_ret
    exact ⟨by rw [HF.out]; simp [c], rfl⟩
  · by_cases a : y % 4 = 0
    · by_cases b : y % 100 = 0
      all_goals
        go_enter Tryd.func53, Tryd.ntmps53
        go_wp2
        go_ret
        exact ⟨by rw [HF.out]; simp [a, b, c], rfl⟩
    · go_enter Tryd.func53, Tryd.ntmps53
      go_wp2
      go_ret
      exact ⟨by rw [HF.out]; simp [a, c], rfl⟩

theorem ret_int {k : IntKind} {a b : Int} (h : a = b) : Ending.returned (.int k a) = .returned (.int k b) := by rw [h]

theorem ahead_t (y : Int) (w : World) (h1 : 1 ≤ y) (h2 : y ≤ 10001) :
    Calls Tryd.prog 42 #[.int .i64 y] w fun e w' => e = .returned (.int .i64 (aheadY y)) ∧ w = w' := by
  have HF : Hid (aheadY y = 365 * (y - 1970) + ((y - 1) / 4 - (y - 1) / 100 + (y - 1) / 400) - 477) := rfl
  go_enter Tryd.func42, Tryd.ntmps42
  go_wp2
  go_ret
  exact ⟨ret_int (by rw [HF.out]), rfl⟩

theorem yearly_t (y : Int) (w : World) (h1 : 1 ≤ y) (h2 : y ≤ 10000) :
    Calls Tryd.prog 44 #[.int .i64 y] w fun e w' => e = .returned (.int .i64 (365 + lp y)) ∧ w = w' := by
  cases hl : leapB y
  all_goals
    have HF : Hid (lp y = if leapB y then 1 else 0) := rfl
    have HL := Lib.hid hl; clear hl
    go_enter Tryd.func44, Tryd.ntmps44
    go_wp2_with fail
    refine (refLeap_t _ _ h1 h2).mono ?_
    rintro e w' ⟨rfl, rfl⟩
    rw [HL.out]
    go_wp2
    go_ret
    exact ⟨ret_int (by rw [HF.out, HL.out]; simp), rfl⟩

set_option maxHeartbeats 2000000 in
theorem long_t (y m : Int) (w : World) (h1 : 1 ≤ y) (h2 : y ≤ 10000) (m1 : 1 ≤ m) (m2 : m ≤ 12) :
    Calls Tryd.prog 41 #[.int .i64 y, .int .i64 m] w fun e w' => e = .returned (.int .i64 (long y m)) ∧ Below w.heap.size w w' := by
  have hm : m = 2 ∨ m = 1 ∨ m = 3 ∨ m = 4 ∨ m = 5 ∨ m = 6 ∨ m = 7 ∨ m = 8 ∨ m = 9 ∨ m = 10 ∨ m = 11 ∨ m = 12 := by omega
  have HF : Hid (∀ m, long y m = if m = 2 then 28 + lp y else if m = 4 ∨ m = 6 ∨ m = 9 ∨ m = 11 then 30 else 31) := fun _ => rfl
  rcases hm with rfl | hm
  · cases hl : leapB y
    all_goals
      have HG : Hid (lp y = if leapB y then 1 else 0) := rfl
      have HL := Lib.hid hl; clear hl
      go_enter Tryd.func41, Tryd.ntmps41
      go_wp2_with fail
      refine (leap_t _ _ h1 h2).mono ?_
      rintro e w' ⟨rfl, rfl⟩
      rw [HL.out]
      go_wp2
      go_ret
      exact ⟨ret_int (by rw [HF.out, HG.out, HL.out]; simp), (Below.refl _ _).alloc (Nat.le_refl _) _⟩
  · rcases hm with rfl | rfl | rfl | rfl | rfl | rfl | rfl | rfl | rfl | rfl | rfl
    all_goals
      go_enter Tryd.func41, Tryd.ntmps41
      go_wp2
      go_ret
      exact ⟨ret_int (by rw [HF.out]; simp), (Below.refl _ _).alloc (Nat.le_refl _) _⟩

set_option maxHeartbeats 2000000 in
theorem refLong_t (y m : Int) (w : World) (h1 : 1 ≤ y) (h2 : y ≤ 10000) (m1 : 1 ≤ m) (m2 : m ≤ 12) :
    Calls Tryd.prog 45 #[.int .i64 y, .int .i64 m] w fun e w' => e = .returned (.int .i64 (long y m)) ∧ w = w' := by
  have hm : m = 2 ∨ m = 1 ∨ m = 3 ∨ m = 4 ∨ m = 5 ∨ m = 6 ∨ m = 7 ∨ m = 8 ∨ m = 9 ∨ m = 10 ∨ m = 11 ∨ m = 12 := by omega
  have HF : Hid (∀ m, long y m = if m = 2 then 28 + lp y else if m = 4 ∨ m = 6 ∨ m = 9 ∨ m = 11 then 30 else 31) := fun _ => rfl
  rcases hm with rfl | hm
  · cases hl : leapB y
    all_goals
      have HG : Hid (lp y = if leapB y then 1 else 0) := rfl
      have HL := Lib.hid hl; clear hl
      go_enter Tryd.func45, Tryd.ntmps45
      go_wp2_with fail
      refine (refLeap_t _ _ h1 h2).mono ?_
      rintro e w' ⟨rfl, rfl⟩
      rw [HL.out]
      go_wp2
      go_ret
      exact ⟨ret_int (by rw [HF.out, HG.out, HL.out]; simp), rfl⟩
  · rcases hm with rfl | rfl | rfl | rfl | rfl | rfl | rfl | rfl | rfl | rfl | rfl
    all_goals
      go_enter Tryd.func45, Tryd.ntmps45
      go_wp2
      go_ret
      exact ⟨ret_int (by rw [HF.out]; simp), rfl⟩

end Go.Proofs.YtmjmoihggojpiaaDoor
