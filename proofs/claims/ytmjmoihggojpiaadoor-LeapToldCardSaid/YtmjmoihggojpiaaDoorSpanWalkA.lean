/- The walks of span.Of and Right, and of the reference's Right. -/
import Derived.Test.YtmjmoihggojpiaaDoorWideWalkD
import Derived.Deep.RegionWith
import Derived.Deep.RegionHeld3
set_option linter.unusedSimpArgs false
set_option linter.unusedVariables false
namespace Go.Proofs.YtmjmoihggojpiaaDoor
open Go.RowKit

def spanOk (lo hi : Int) : Bool := (small lo && small hi) && decide (lo ≤ hi)

theorem spanOf_yes (lo hi : Int) (w : World) (h : spanOk lo hi = true) :
    Calls Tryd.prog 14 #[.int .i64 lo, .int .i64 hi] w fun e w' => e = .returned (.agg #[.int .i64 lo, .int .i64 hi, .bool true]) ∧ Below w.heap.size w w' := by
  unfold spanOk at h
  rw [Bool.and_eq_true, decide_eq_true_iff] at h
  obtain ⟨h1, h2⟩ := h
  have HS := Lib.hid h1; clear h1
  go_enter Tryd.func14, Tryd.ntmps14
  go_wp2_with (go_at_call 27; refine (small2 lo hi _ _ _ (by go_simp) (by go_simp)).mono ?_; rintro e w' ⟨rfl, rfl⟩; rw [HS.out])
  exact bodyPost_ret (v := .agg #[.int .i64 lo, .int .i64 hi, .bool true]) (by simp [results, Tryd.results14, go_sem]) rfl ⟨rfl, ((Below.refl _ _).alloc (Nat.le_refl _) _).alloc (by simp) _⟩
theorem spanOf_no (lo hi : Int) (w : World) (h : spanOk lo hi = false) :
    Calls Tryd.prog 14 #[.int .i64 lo, .int .i64 hi] w fun e w' => e = .returned (.agg #[.int .i64 0, .int .i64 0, .bool false]) ∧ Below w.heap.size w w' := by
  unfold spanOk at h
  cases hs : (small lo && small hi)
  · have HS := Lib.hid hs; clear hs h
    go_enter Tryd.func14, Tryd.ntmps14
    go_wp2_with (go_at_call 27; refine (small2 lo hi _ _ _ (by go_simp) (by go_simp)).mono ?_; rintro e w' ⟨rfl, rfl⟩; rw [HS.out])
    exact bodyPost_ret (v := .agg #[.int .i64 0, .int .i64 0, .bool false]) (by simp [results, Tryd.results14, go_sem]) rfl ⟨rfl, ((Below.refl _ _).alloc (Nat.le_refl _) _).alloc (by simp) _⟩
  · rw [hs, Bool.true_and, decide_eq_false_iff_not] at h
    have HS := Lib.hid hs; clear hs
    have h' : hi < lo := by omega
    clear h
    go_enter Tryd.func14, Tryd.ntmps14
    go_wp2_with (go_at_call 27; refine (small2 lo hi _ _ _ (by go_simp) (by go_simp)).mono ?_; rintro e w' ⟨rfl, rfl⟩; rw [HS.out])
    exact bodyPost_ret (v := .agg #[.int .i64 0, .int .i64 0, .bool false]) (by simp [results, Tryd.results14, go_sem]) rfl ⟨rfl, ((Below.refl _ _).alloc (Nat.le_refl _) _).alloc (by simp) _⟩

theorem eql_span (a b c d : Int) (k m : Bool) (w : World) :
    (binOp .eql 38 (.agg #[.int .i64 a, .int .i64 b, .bool k]) (.agg #[.int .i64 c, .int .i64 d, .bool m])).run Tryd.prog w = .ok (.bool (decide (a = c) && (decide (b = d) && (k == m)))) w := by
  have hS : Tryd.prog.underlying 38 = some (.struct (Tryd.prog.fieldsOf 38)) := by kernel_rfl
  have hp : Tryd.prog.stoodInHeld 38 = false := by kernel_rfl
  rw [run_eql_struct, show (10000 : Nat) = 9999 + 1 from rfl, run_equalIn_agg w 9999 38 _ _ hS hp]
  simp only [Program.fieldsOf, Tryd.underlying38]
  go_simp
  by_cases h1 : a = c <;> by_cases h2 : b = d <;> cases k <;> cases m <;> simp [h1, h2]

set_option maxHeartbeats 1000000 in
theorem spanRight_known (lo hi : Int) (w : World) :
    Calls Tryd.prog 22 #[.agg #[.int .i64 lo, .int .i64 hi, .bool true]] w fun e w' => e = .returned (.bool (spanOk lo hi)) ∧ Below w.heap.size w w' := by
  have E1 : ∀ w, (binOp .eql 38 (.agg #[.int .i64 lo, .int .i64 hi, .bool true]) (.agg #[.int .i64 0, .int .i64 0, .bool false])).run Tryd.prog w = .ok (.bool false) w := fun w => by rw [eql_span]; simp
  cases h : spanOk lo hi
  · have HK := Lib.hid h; clear h
    go_enter Tryd.func22, Tryd.ntmps22
    go_wp2
    go_region_held3 (fun w' => w'.cell? ⟨w.heap.size, 0, none⟩ = some (.int .i64 lo) ∧ w'.cell? ⟨w.heap.size, 1, none⟩ = some (.int .i64 hi) ∧ w'.cell? ⟨w.heap.size, 2, none⟩ = some (.bool true)) (go_keep) (first | (go_at_call 14; refine (spanOf_no lo hi _ HK.out).mono ?_; rintro e w' ⟨rfl, hb⟩; obtain ⟨hc, hf⟩ := bcell2 hb))
    go_wp2
    go_ret
    first
      | exact ⟨rfl, ((Below.refl _ _).alloc (Nat.le_refl _) _).trans (hb.mono (by simp))⟩
      | exact ⟨rfl, ((Below.refl _ _).alloc (Nat.le_refl _) _).drew.trans (hb.mono (by simp))⟩
  · have HK := Lib.hid h; clear h
    have E2 : ∀ w, (binOp .eql 38 (.agg #[.int .i64 lo, .int .i64 hi, .bool true]) (.agg #[.int .i64 lo, .int .i64 hi, .bool true])).run Tryd.prog w = .ok (.bool true) w := fun w => by rw [eql_span]; simp
    go_enter Tryd.func22, Tryd.ntmps22
    go_wp2
    go_region_held3 (fun w' => w'.cell? ⟨w.heap.size, 0, none⟩ = some (.int .i64 lo) ∧ w'.cell? ⟨w.heap.size, 1, none⟩ = some (.int .i64 hi) ∧ w'.cell? ⟨w.heap.size, 2, none⟩ = some (.bool true)) (go_keep) (first | (go_at_call 14; refine (spanOf_yes lo hi _ HK.out).mono ?_; rintro e w' ⟨rfl, hb⟩; obtain ⟨hc, hf⟩ := bcell2 hb))
    go_wp2
    go_ret
    first
      | exact ⟨rfl, ((Below.refl _ _).alloc (Nat.le_refl _) _).trans (hb.mono (by simp))⟩
      | exact ⟨rfl, ((Below.refl _ _).alloc (Nat.le_refl _) _).drew.trans (hb.mono (by simp))⟩

theorem refSmall_t (n : Int) (w : World) : Calls Tryd.prog 38 #[.int .i64 n] w fun e w' => e = .returned (.bool (small n)) ∧ w = w' := by
  have HS : Hid (small n = (decide (-4611686018427387904 ≤ n) && decide (n ≤ 4611686018427387904))) := rfl
  by_cases h1 : -4611686018427387904 ≤ n
  · by_cases h2 : n ≤ 4611686018427387904
    all_goals
      go_enter Tryd.func38, Tryd.ntmps38
      go_wp2
      go_ret
      exact ⟨ret_bool (by rw [HS.out]; simp [h1, h2]), rfl⟩
  · go_enter Tryd.func38, Tryd.ntmps38
    go_wp2
    go_ret
    exact ⟨ret_bool (by rw [HS.out, decide_eq_false (show ¬ (-4611686018427387904 ≤ n) by omega)]; rfl), rfl⟩

set_option maxHeartbeats 1000000 in
theorem refRight_known (lo hi : Int) (w : World) :
    Calls Tryd.prog 24 #[.agg #[.int .i64 lo, .int .i64 hi, .bool true]] w fun e w' => e = .returned (.bool (spanOk lo hi)) ∧ Below w.heap.size w w' := by
  have HK : Hid (spanOk lo hi = ((small lo && small hi) && decide (lo ≤ hi))) := rfl
  by_cases h : lo ≤ hi
  · cases h1 : small lo
    · have H1 := Lib.hid h1; clear h1
      go_enter Tryd.func24, Tryd.ntmps24
      go_wp2_with fail
      refine (refSmall_t lo _).mono ?_
      rintro e w' ⟨rfl, rfl⟩
      rw [H1.out]
      go_wp2_with fail
      go_ret
      exact ⟨ret_bool (by rw [HK.out, H1.out]; simp), (Below.refl _ _).alloc (Nat.le_refl _) _⟩
    · have H1 := Lib.hid h1; clear h1
      obtain ⟨k, hk⟩ : ∃ k, k = small hi := ⟨_, rfl⟩
      rw [← hk] at HK
      have H2 := Lib.hid hk; clear hk
      go_enter Tryd.func24, Tryd.ntmps24
      go_wp2_with fail
      refine (refSmall_t lo _).mono ?_
      rintro e w' ⟨rfl, rfl⟩
      rw [H1.out]
      go_wp2_with fail
      refine (refSmall_t hi _).mono ?_
      rintro e w' ⟨rfl, rfl⟩
      rw [← H2.out]
      go_wp2_with fail
      go_ret
      exact ⟨ret_bool (by rw [HK.out, H1.out]; simp [h]), (Below.refl _ _).alloc (Nat.le_refl _) _⟩
  · go_enter Tryd.func24, Tryd.ntmps24
    go_wp2_with fail
    go_ret
    exact ⟨ret_bool (by rw [HK.out]; simp [h]), (Below.refl _ _).alloc (Nat.le_refl _) _⟩
end Go.Proofs.YtmjmoihggojpiaaDoor
