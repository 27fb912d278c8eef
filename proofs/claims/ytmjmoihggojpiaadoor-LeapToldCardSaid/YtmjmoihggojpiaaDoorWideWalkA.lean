/- The walks of wide's Small, told, Abs. -/
import Derived.Test.YtmjmoihggojpiaaDoorProg
import Derived.WalkKit
import Derived.WalkLawsBesides
import Derived.BigQuiet
import Derived.Deep.QuietTactic
import Derived.Lib.Hide
set_option linter.unusedSimpArgs false
set_option linter.unusedVariables false
namespace Go.Proofs.YtmjmoihggojpiaaDoor
open Go.RowKit

def small (n : Int) : Bool := decide (-4611686018427387904 ≤ n) && decide (n ≤ 4611686018427387904)
theorem small_iff (n : Int) : small n = true ↔ -4611686018427387904 ≤ n ∧ n ≤ 4611686018427387904 := by simp [small]
theorem small_not (n : Int) : small n = false ↔ ¬ (-4611686018427387904 ≤ n ∧ n ≤ 4611686018427387904) := by rw [← small_iff]; simp

theorem ret_bool {a b : Bool} (h : a = b) : Ending.returned (.bool a) = .returned (.bool b) := by rw [h]

theorem getD_mem_all (xs : List Int) (k : Nat) (h : k < xs.length) : xs.getD k 0 ∈ xs := by
  rw [List.getD_eq_getElem?_getD, List.getElem?_eq_getElem h]; simp
theorem all_take_step (xs : List Int) (k : Nat) (h : k < xs.length) (ht : (xs.take k).all small = true) (hx : small (xs.getD k 0) = true) : (xs.take (k + 1)).all small = true := by
  rw [List.take_succ_eq_append_getElem h, List.all_append, ht]
  rw [List.getD_eq_getElem?_getD, List.getElem?_eq_getElem h] at hx
  simpa using hx
theorem all_false (xs : List Int) (k : Nat) (h : k < xs.length) (hx : small (xs.getD k 0) = false) : xs.all small = false := by
  rw [List.all_eq_false]
  exact ⟨_, getD_mem_all xs k h, by rw [hx]; simp⟩

set_option maxHeartbeats 1000000 in
theorem small_t (xs : List Int) (b n c : Nat) (w : World) (hn : n = xs.length) (hl : n ≤ 1000000) (hc : ∀ j, j < xs.length → w.cell? ⟨b, j, none⟩ = some (.int .i64 (xs.getD j 0))) :
    Calls Tryd.prog 27 #[.slice (some ⟨b, 0, none⟩) n c] w fun e w' => e = .returned (.bool (xs.all small)) ∧ w = w' := by
  subst hn
  have HC := Lib.hid hc; clear hc
  go_enter Tryd.func27, Tryd.ntmps27
  go_wp2_with fail
  go_loop [4, 7] (fun _ i => ∃ k : Nat, k ≤ xs.length ∧ i = .int .i64 k ∧ Hid ((xs.take k).all small = true)) (fun _ i => xs.length - (intOf i).toNat)
  case atStart => exact ⟨0, Nat.zero_le _, rfl, by simp [Hid]⟩
  case round =>
    obtain ⟨k, hk, rfl, ht⟩ := hrel
    by_cases hlt : k < xs.length
    · have hcell := HC.out k hlt
      obtain ⟨x, hx⟩ : ∃ x, x = xs.getD k 0 := ⟨_, rfl⟩
      rw [← hx] at hcell
      have HX := Lib.hid hx; clear hx
      by_cases h1 : x < -4611686018427387904
      · go_wp2
        go_ret
        exact ⟨ret_bool (all_false xs k hlt (by rw [← HX.out, small_not]; omega)).symm, rfl⟩
      · by_cases h2 : 4611686018427387904 < x
        · go_wp2
          go_ret
          exact ⟨ret_bool (all_false xs k hlt (by rw [← HX.out, small_not]; omega)).symm, rfl⟩
        · go_wp2
          go_round
          case rel => exact ⟨k + 1, by omega, by go_num, all_take_step xs k hlt ht.out (by rw [← HX.out, small_iff]; omega)⟩
          case measure => simp [intOf]; omega
    · go_wp2
      go_ret
      have h := ht.out
      rw [List.take_of_length_le (by omega)] at h
      exact ⟨ret_bool h.symm, rfl⟩


/-- A list of one, two, three numbers that lie in a new block. -/
theorem small1 (x : Int) (b c : Nat) (w : World) (h0 : w.cell? ⟨b, 0, none⟩ = some (.int .i64 x)) :
    Calls Tryd.prog 27 #[.slice (some ⟨b, 0, none⟩) 1 c] w fun e w' => e = .returned (.bool (small x)) ∧ w = w' := by
  have h := small_t [x] b 1 c w rfl (by omega) (fun j hj => by
    match j, hj with
    | 0, _ => exact h0)
  simpa using h
theorem small2 (x y : Int) (b c : Nat) (w : World) (h0 : w.cell? ⟨b, 0, none⟩ = some (.int .i64 x)) (h1 : w.cell? ⟨b, 1, none⟩ = some (.int .i64 y)) :
    Calls Tryd.prog 27 #[.slice (some ⟨b, 0, none⟩) 2 c] w fun e w' => e = .returned (.bool (small x && small y)) ∧ w = w' := by
  have h := small_t [x, y] b 2 c w rfl (by omega) (fun j hj => by
    match j, hj with
    | 0, _ => exact h0
    | 1, _ => exact h1)
  simpa using h
theorem small3 (x y z : Int) (b c : Nat) (w : World) (h0 : w.cell? ⟨b, 0, none⟩ = some (.int .i64 x)) (h1 : w.cell? ⟨b, 1, none⟩ = some (.int .i64 y)) (h2 : w.cell? ⟨b, 2, none⟩ = some (.int .i64 z)) :
    Calls Tryd.prog 27 #[.slice (some ⟨b, 0, none⟩) 3 c] w fun e w' => e = .returned (.bool (small x && (small y && small z))) ∧ w = w' := by
  have h := small_t [x, y, z] b 3 c w rfl (by omega) (fun j hj => by
    match j, hj with
    | 0, _ => exact h0
    | 1, _ => exact h1
    | 2, _ => exact h2)
  simpa using h

def absI (a : Int) : Int := if a < 0 then -a else a
theorem abs_t (a : Int) (w : World) (h1 : -4611686018427387904 ≤ a) (h2 : a ≤ 4611686018427387904) :
    Calls Tryd.prog 48 #[.int .i64 a] w fun e w' => e = .returned (.int .i64 (absI a)) ∧ Below w.heap.size w w' := by
  have hs := Lib.hid ((small_iff a).2 ⟨h1, h2⟩)
  by_cases h : a < 0
  all_goals
    have HA : Hid (absI a = if a < 0 then -a else a) := rfl
    go_enter Tryd.func48, Tryd.ntmps48
    go_wp2_with (go_at_call 27; refine (small1 a _ _ _ (by go_simp)).mono ?_; rintro e w' ⟨rfl, rfl⟩; rw [hs.out])
    go_ret
    first
      | exact ⟨congrArg (fun x => Ending.returned (.int .i64 x)) (by rw [HA.out, if_pos h]), (Below.refl _ _).alloc (Nat.le_refl _) _⟩
      | exact ⟨congrArg (fun x => Ending.returned (.int .i64 x)) (by rw [HA.out, if_neg (by omega)]), (Below.refl _ _).alloc (Nat.le_refl _) _⟩

theorem told_no (n : Int) (w : World) : Calls Tryd.prog 37 #[.int .i64 n, .bool false] w fun e w' => e = .returned (.tuple #[.int .i64 0, .bool false]) ∧ w = w' := by
  go_enter Tryd.func37, Tryd.ntmps37
  go_wp2_with fail
  go_ret2
  exact ⟨rfl, rfl⟩
theorem told_yes (n : Int) (w : World) (h : small n = true) : Calls Tryd.prog 37 #[.int .i64 n, .bool true] w fun e w' => e = .returned (.tuple #[.int .i64 n, .bool true]) ∧ Below w.heap.size w w' := by
  have hs := Lib.hid h; clear h
  go_enter Tryd.func37, Tryd.ntmps37
  go_wp2_with (go_at_call 27; refine (small1 n _ _ _ (by go_simp)).mono ?_; rintro e w' ⟨rfl, rfl⟩; rw [hs.out])
  go_ret2
  exact ⟨rfl, (Below.refl _ _).alloc (Nat.le_refl _) _⟩
theorem told_far (n : Int) (w : World) (h : small n = false) : Calls Tryd.prog 37 #[.int .i64 n, .bool true] w fun e w' => e = .returned (.tuple #[.int .i64 0, .bool false]) ∧ Below w.heap.size w w' := by
  have hs := Lib.hid h; clear h
  go_enter Tryd.func37, Tryd.ntmps37
  go_wp2_with (go_at_call 27; refine (small1 n _ _ _ (by go_simp)).mono ?_; rintro e w' ⟨rfl, rfl⟩; rw [hs.out])
  go_ret2
  exact ⟨rfl, (Below.refl _ _).alloc (Nat.le_refl _) _⟩

end Go.Proofs.YtmjmoihggojpiaaDoor
