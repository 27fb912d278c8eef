/- The walk of civil.Date. -/
import Derived.Test.YtmjmoihggojpiaaDoorCivWalkA
set_option linter.unusedSimpArgs false
set_option linter.unusedVariables false
namespace Go.Proofs.YtmjmoihggojpiaaDoor
open Go.RowKit Civ

theorem ahead_end (w : World) : Calls Tryd.prog 42 #[.int .i64 10000] w fun e w' => e = .returned (.int .i64 2932897) ∧ w = w' := by
  have h := ahead_t 10000 w (by omega) (by omega)
  rw [ahead_hi] at h
  exact h

set_option maxHeartbeats 1000000 in
theorem date_no (d : Int) (w : World) (h : d < 0 ∨ 2932897 ≤ d) (hb : d ≤ 9000000000000000) :
    Calls Tryd.prog 34 #[.int .i64 d] w fun e w' => e = .returned (.tuple #[.int .i64 0, .int .i64 0, .int .i64 0, .bool false]) ∧ w = w' := by
  by_cases h0 : d < 0
  · go_enter Tryd.func34, Tryd.ntmps34
    go_wp2
    go_step3
    go_wp2
    rw [Exit.noGoto_ret]
    exact bodyPost_ret (v := .tuple #[.int .i64 0, .int .i64 0, .int .i64 0, .bool false]) (by simp [results, Tryd.results34, go_sem]) rfl ⟨rfl, rfl⟩
  · have h2 : 2932897 ≤ d := by omega
    go_enter Tryd.func34, Tryd.ntmps34
    go_wp2
    go_step3
    go_wp2_with (go_at_call 42; refine (ahead_end _).mono ?_; rintro e w' ⟨rfl, rfl⟩)
    rw [Exit.noGoto_ret]
    exact bodyPost_ret (v := .tuple #[.int .i64 0, .int .i64 0, .int .i64 0, .bool false]) (by simp [results, Tryd.results34, go_sem]) rfl ⟨rfl, rfl⟩

theorem year_bd (d y : Int) (h2 : d < 2932897) (h : aheadY y ≤ d) : y ≤ 9999 := by
  by_cases c : y ≤ 9999
  · exact c
  · have := ahead_mono 10000 y (by omega); rw [ahead_hi] at this; omega

set_option maxHeartbeats 1000000 in
theorem date_yes (d : Int) (w : World) (h1 : 0 ≤ d) (h2 : d < 2932897) :
    Calls Tryd.prog 34 #[.int .i64 d] w fun e w' => e = .returned (.tuple #[.int .i64 (yOf d), .int .i64 (mo d), .int .i64 (dOf d), .bool true]) ∧ Below w.heap.size w w' := by
  have g0 := ahead_guess d h1
  go_enter Tryd.func34, Tryd.ntmps34
  go_wp2
  go_step3
  go_wp2_with (go_at_call 42; refine (ahead_end _).mono ?_; rintro e w' ⟨rfl, rfl⟩)
  go_step3
  go_wp2_with fail
  go_loop [2] (fun t => ∃ y : Int, 1970 ≤ y ∧ aheadY y ≤ d ∧ t = .int .i64 y) (fun t => (10000 - intOf t).toNat)
  case atStart => exact ⟨_, by omega, g0, rfl⟩
  case round =>
    obtain ⟨y, hy1, hy2, rfl⟩ := hrel
    have hy3 := year_bd d y h2 hy2
    by_cases hc : d < aheadY (y + 1)
    · have HY := Lib.hid (yOf_uniq d y h1 h2 hy2 hc)
      have ab := ahead_bd y hy1 (by omega)
      have hs := ahead_succ y
      have HR : Hid (0 ≤ d - aheadY y ∧ d - aheadY y < 365 + lp y) := ⟨by omega, by omega⟩
      clear hs g0
      have hr0 := HR.out.1
      have hr1 : d - aheadY y ≤ 366 := by have := HR.out.2; have := lp_01 y; omega
      go_wp2_with (go_at_call 42; refine (ahead_t _ _ (by omega) (by omega)).mono ?_; rintro e w' ⟨rfl, rfl⟩)
      go_step3
      go_wp2_with fail
      go_loopw [0, 3, 6] (fun r k _ wr => ∃ m : Int, 1 ≤ m ∧ m ≤ 12 ∧ k = .int .i64 m ∧ 0 ≤ d - aheadY y - cum y m ∧ r = .int .i64 (d - aheadY y - cum y m) ∧ Below w.heap.size w wr) (fun _ k _ _ => (13 - intOf k).toNat)
      case atStart => exact ⟨1, by omega, by omega, rfl, by rw [cum_one]; omega, by rw [cum_one]; simp, Below.refl _ _⟩
      case round =>
        obtain ⟨m, hm1, hm2, rfl, hr, rfl, hb⟩ := hrel
        have cb := cum_bd y m
        have lb := long_bd y m
        have HC := Lib.hid (cum_succ y m hm1 hm2)
        by_cases hd : d - aheadY y - cum y m < long y m
        · have HM : Hid (mo d = m) := by
            unfold mo; rw [HY.out]
            exact mOf_uniq y _ m HR.out.1 HR.out.2 hm1 hm2 (by omega) (by rw [HC.out]; omega)
          go_wp2_with (go_at_call 41; refine (long_t _ _ _ (by omega) (by omega) hm1 hm2).mono ?_; rintro e w' ⟨rfl, hb'⟩)
          rw [Exit.noGoto_ret]
          refine bodyPost_ret (v := .tuple #[.int .i64 y, .int .i64 m, .int .i64 (d - aheadY y - cum y m + 1), .bool true]) (by simp [results, Tryd.results34, go_sem]) rfl ⟨?_, hb.trans (hb'.mono hb.size)⟩
          unfold dOf; rw [HM.out, HY.out]
        · have hm3 : m ≤ 11 := by
            by_cases c : m = 12
            · exfalso
              have e := HC.out; have r2 := HR.out.2
              subst c
              rw [show (12 : Int) + 1 = 13 from rfl, cum_end] at e
              omega
            · omega
          go_wp2_with (go_at_call 41; refine (long_t _ _ _ (by omega) (by omega) hm1 hm2).mono ?_; rintro e w' ⟨rfl, hb'⟩)
          go_roundw
          case rel => exact ⟨m + 1, by omega, by omega, rfl, by rw [HC.out]; omega, by rw [HC.out]; go_num, hb.trans (hb'.mono hb.size)⟩
          case measure => simp [intOf]; omega
    · go_wp2_with (go_at_call 42; refine (ahead_t _ _ (by omega) (by omega)).mono ?_; rintro e w' ⟨rfl, rfl⟩)
      go_round
      case rel => exact ⟨y + 1, by omega, by omega, rfl⟩
      case measure => simp [intOf]; omega
end Go.Proofs.YtmjmoihggojpiaaDoor
