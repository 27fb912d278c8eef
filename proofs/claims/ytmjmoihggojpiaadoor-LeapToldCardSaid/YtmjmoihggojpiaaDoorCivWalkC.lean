/- The walks of the reference's Date, and of Of and sixtieth, the program's and the reference's. -/
import Derived.Test.YtmjmoihggojpiaaDoorCivWalkB
set_option linter.unusedSimpArgs false
set_option linter.unusedVariables false
namespace Go.Proofs.YtmjmoihggojpiaaDoor
open Go.RowKit Civ

@[reducible] def Civ.Lab.val (l : Lab) : Value := .agg #[.int .i64 l.y, .int .i64 l.mo, .int .i64 l.d, .int .i64 l.h, .int .i64 l.mi, .int .i64 l.s]

set_option maxHeartbeats 1000000 in
theorem refDate_neg (d : Int) (w : World) (h : d < 0) :
    Calls Tryd.prog 35 #[.int .i64 d] w fun e w' => e = .returned (.tuple #[Lab.zero.val, .bool false]) ∧ Below w.heap.size w w' := by
  go_enter Tryd.func35, Tryd.ntmps35
  go_wp2
  exact bodyPost_ret (v := .tuple #[Lab.zero.val, .bool false]) (by simp [results, Tryd.results35, go_sem, Lab.zero]) rfl ⟨rfl, (Below.refl _ _).alloc (Nat.le_refl _) _⟩

set_option maxHeartbeats 1000000 in
theorem refDate_far (d : Int) (w : World) (h : 2932897 ≤ d) (hb : d ≤ 9000000000000000) :
    Calls Tryd.prog 35 #[.int .i64 d] w fun e w' => e = .returned (.tuple #[Lab.zero.val, .bool false]) ∧ Below w.heap.size w w' := by
  go_enter Tryd.func35, Tryd.ntmps35
  go_wp2_with fail
  go_loop [0, 4] (fun r t => ∃ y : Int, 1970 ≤ y ∧ y ≤ 10000 ∧ t = .int .i64 y ∧ r = .int .i64 (d - aheadY y)) (fun _ t => (10000 - intOf t).toNat)
  case atStart => exact ⟨1970, by omega, by omega, rfl, by rw [ahead_lo]; simp⟩
  case round =>
    obtain ⟨y, hy1, hy2, rfl, rfl⟩ := hrel
    have ab := ahead_bd y hy1 hy2
    by_cases hy3 : y ≤ 9999
    · have HS := Lib.hid (ahead_succ y)
      have l01 := lp_01 y
      have hge : 365 + lp y ≤ d - aheadY y := by
        have := HS.out; have := (ahead_bd (y + 1) (by omega) (by omega)).2; omega
      go_wp2_with (go_at_call 44; refine (yearly_t _ _ (by omega) (by omega)).mono ?_; rintro e w' ⟨rfl, rfl⟩)
      go_round
      case rel => exact ⟨y + 1, by omega, by omega, rfl, by rw [HS.out]; go_num⟩
      case measure => simp [intOf]; omega
    · obtain rfl : y = 10000 := by omega
      go_wp2
      exact bodyPost_ret (v := .tuple #[Lab.zero.val, .bool false]) (by simp [results, Tryd.results35, go_sem, Lab.zero]) rfl ⟨rfl, (Below.refl _ _).alloc (Nat.le_refl _) _⟩

set_option maxHeartbeats 2000000 in
theorem refDate_yes (d : Int) (w : World) (h1 : 0 ≤ d) (h2 : d < 2932897) :
    Calls Tryd.prog 35 #[.int .i64 d] w fun e w' => e = .returned (.tuple #[(Lab.mk (yOf d) (mo d) (dOf d) 0 0 0).val, .bool true]) ∧ Below w.heap.size w w' := by
  go_enter Tryd.func35, Tryd.ntmps35
  go_wp2_with fail
  go_loop [0, 4] (fun r t => ∃ y : Int, 1970 ≤ y ∧ aheadY y ≤ d ∧ t = .int .i64 y ∧ r = .int .i64 (d - aheadY y)) (fun _ t => (10000 - intOf t).toNat)
  case atStart => exact ⟨1970, by omega, by rw [ahead_lo]; exact h1, rfl, by rw [ahead_lo]; simp⟩
  case round =>
    obtain ⟨y, hy1, hyd, rfl, rfl⟩ := hrel
    have hy3 := year_bd d y h2 hyd
    have ab := ahead_bd y hy1 (by omega)
    have HS := Lib.hid (ahead_succ y)
    have l01 := lp_01 y
    by_cases hc : d - aheadY y < 365 + lp y
    · have HY := Lib.hid (yOf_uniq d y h1 h2 hyd (by rw [HS.out]; omega))
      go_wp2_with (go_at_call 44; refine (yearly_t _ _ (by omega) (by omega)).mono ?_; rintro e w' ⟨rfl, rfl⟩)
      go_loop [0, 5] (fun r k => ∃ m : Int, 1 ≤ m ∧ m ≤ 12 ∧ k = .int .i64 m ∧ 0 ≤ d - aheadY y - cum y m ∧ r = .int .i64 (d - aheadY y - cum y m)) (fun _ k => (13 - intOf k).toNat)
      case atStart => exact ⟨1, by omega, by omega, rfl, by rw [cum_one]; omega, by rw [cum_one]; simp⟩
      case round =>
        obtain ⟨m, hm1, hm2, rfl, hr, rfl⟩ := hrel
        have cb := cum_bd y m
        have lb := long_bd y m
        have HC := Lib.hid (cum_succ y m hm1 hm2)
        by_cases hd : d - aheadY y - cum y m < long y m
        · have HM : Hid (mo d = m) := by
            unfold mo; rw [HY.out]
            exact mOf_uniq y _ m (by omega) hc hm1 hm2 (by omega) (by rw [HC.out]; omega)
          go_wp2_with (go_at_call 45; refine (refLong_t _ _ _ (by omega) (by omega) hm1 hm2).mono ?_; rintro e w' ⟨rfl, rfl⟩)
          refine bodyPost_ret (v := .tuple #[(Lab.mk y m (d - aheadY y - cum y m + 1) 0 0 0).val, .bool true]) (by simp [results, Tryd.results35, go_sem]) rfl ⟨?_, (Below.refl _ _).alloc (Nat.le_refl _) _⟩
          unfold dOf; rw [HM.out, HY.out]
        · have hm3 : m ≤ 11 := by
            by_cases c : m = 12
            · exfalso
              have e := HC.out
              subst c
              rw [show (12 : Int) + 1 = 13 from rfl, cum_end] at e
              omega
            · omega
          go_wp2_with (go_at_call 45; refine (refLong_t _ _ _ (by omega) (by omega) hm1 hm2).mono ?_; rintro e w' ⟨rfl, rfl⟩)
          go_round
          case rel => exact ⟨m + 1, by omega, by omega, rfl, by rw [HC.out]; omega, by rw [HC.out]; go_num⟩
          case measure => simp [intOf]; omega
    · have hge : 365 + lp y ≤ d - aheadY y := by omega
      go_wp2_with (go_at_call 44; refine (yearly_t _ _ (by omega) (by omega)).mono ?_; rintro e w' ⟨rfl, rfl⟩)
      go_round
      case rel => exact ⟨y + 1, by omega, by rw [HS.out]; omega, rfl, by rw [HS.out]; go_num⟩
      case measure => simp [intOf]; omega
end Go.Proofs.YtmjmoihggojpiaaDoor
