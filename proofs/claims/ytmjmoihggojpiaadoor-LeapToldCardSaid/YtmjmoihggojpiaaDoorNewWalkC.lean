/- The walk of leap.New where it has no table, and of no leap at all. -/
import Derived.Test.YtmjmoihggojpiaaDoorNewWalkB
set_option linter.unusedSimpArgs false
set_option linter.unusedVariables false
namespace Go.Proofs.YtmjmoihggojpiaaDoor
open Go.RowKit Civ
attribute [local go_sem] isSome_setCell

theorem new_bad (first : Int) (la : Option Addr) (n c : Nat) (w : World) (hn : n ≤ 9223372036854775807) (h : first < 0 ∨ 30000 < first ∨ 64 < n) :
    Calls Tryd.prog 15 #[.int .i64 first, .slice la n c] w fun e w' => e = .returned (.tuple #[.pointer none, .int .i64 160]) ∧ w = w' := by
  by_cases h1 : first < 0
  · have z1 : decide (first < 0) = true := decide_eq_true h1
    go_enter Tryd.func15, Tryd.ntmps15
    go_wp2_with fail
    go_ret2
    exact ⟨rfl, rfl⟩
  · have z1 : decide (first < 0) = false := decide_eq_false h1
    by_cases h2 : 30000 < first
    · have z2 : decide (30000 < first) = true := decide_eq_true h2
      go_enter Tryd.func15, Tryd.ntmps15
      go_wp2_with fail
      go_ret2
      exact ⟨rfl, rfl⟩
    · have z2 : decide (30000 < first) = false := decide_eq_false h2
      have z3 : decide ((64 : Int) < (n : Int)) = true := decide_eq_true (by omega)
      go_enter Tryd.func15, Tryd.ntmps15
      go_wp2_with fail
      go_ret2
      exact ⟨rfl, rfl⟩

theorem new_nil (first : Int) (w : World) (hf1 : 0 ≤ first) (hf2 : first ≤ 30000) :
    Calls Tryd.prog 15 #[.int .i64 first, .slice none 0 0] w fun e w' => ∃ tb, e = .returned (.tuple #[.pointer (some ⟨tb, 0, none⟩), .int .i64 0]) ∧ TabAt w' tb [] first ∧ Below w.heap.size w w' := by
  have z1 : decide (first < 0) = false := decide_eq_false (by omega)
  have z2 : decide (30000 < first) = false := decide_eq_false (by omega)
  go_enter Tryd.func15, Tryd.ntmps15
  go_wp2_with fail
  refine (Tryd.slices_Clone_nil 0 0 w).mono ?_
  rintro e w1 ⟨rfl, rfl⟩
  go_wp2_with fail
  obtain ⟨W, hW⟩ : ∃ W, W = (w1.alloc (.cells #[.int .i64 first] 3)).alloc (.cells #[.slice none 0 0, .slice (some ⟨w1.heap.size, 0, none⟩) 1 1, .slice none 0 0] 68) := ⟨_, rfl⟩
  rw [← hW]
  have HT : Hid (TabAt W (w1.heap.size + 1) [] first) := by
    rw [hW]
    exact tabAt_of (vb := 0) (newAt_start w1 none 0 0 first [] _) rfl (by omega) (fun h => by omega) (fun j u h => by simp [leapCells] at h)
  have HB : Hid (Below w1.heap.size w1 W) := by rw [hW]; exact ((Below.refl _ _).alloc (Nat.le_refl _) _).alloc (by simp) _
  clear hW
  go_loopw [29] (fun i wr => i = .int .i64 0 ∧ wr = W) (fun _ _ => 0)
  case atStart => exact ⟨rfl, rfl⟩
  case round =>
    obtain ⟨rfl, rfl⟩ := hrel
    go_wp2_with fail
    go_ret2
    exact ⟨_, rfl, HT.out, HB.out⟩
end Go.Proofs.YtmjmoihggojpiaaDoor
