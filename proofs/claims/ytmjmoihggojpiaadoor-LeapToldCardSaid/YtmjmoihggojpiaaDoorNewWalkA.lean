/- The walk of leap.New. -/
import Derived.Test.YtmjmoihggojpiaaDoorRightWalk
import Derived.Test.YtmjmoihggojpiaaDoorShelfC
import Derived.StillTactics
import Derived.OwnWalk
import Derived.Laws.Pointers
import Derived.Deep.RegionHeld3
import Derived.Deep.AppendLies
set_option linter.unusedSimpArgs false
set_option linter.unusedVariables false
namespace Go.Proofs.YtmjmoihggojpiaaDoor
open Go.RowKit Civ
attribute [local go_sem] isSome_setCell

theorem end_t (x s : Int) (w : World) (h1 : 0 ≤ x) (h2 : x ≤ 3000000) :
    Calls Tryd.prog 30 #[.agg #[.int .i64 x, .int .i64 s]] w fun e w' => e = .returned (.int .i64 ((x + 1) * 86400)) ∧ Below w.heap.size w w' := by
  go_enter Tryd.func30, Tryd.ntmps30
  go_wp2_with fail
  go_ret
  exact ⟨rfl, (Below.refl _ _).alloc (Nat.le_refl _) _⟩

theorem infoLeap : (Tryd.prog.info? 56).map (fun i => (i.zero, i.size, i.bytes)) = some (some (.agg #[.int .i64 0, .int .i64 0]), 2, 16) := by kernel_rfl
theorem infoInt : (Tryd.prog.info? 3).map (fun i => (i.zero, i.size, i.bytes)) = some (some (.int .i64 0), 1, 8) := by kernel_rfl

/-- The leaps' cells. -/
def leapCells : List (Int × Int) → List Value
  | [] => []
  | x :: l => .int .i64 x.1 :: .int .i64 x.2 :: leapCells l
theorem leapCells_len (L : List (Int × Int)) : (leapCells L).length = L.length * 2 := by
  induction L with
  | nil => rfl
  | cons x l ih => simp [leapCells, ih]; omega
theorem leapCells_fst (L : List (Int × Int)) : ∀ j, j < L.length → (leapCells L)[j * 2]? = some (.int .i64 (L.getD j (0, 0)).1) := by
  induction L with
  | nil => intro j h; simp at h
  | cons x l ih =>
    intro j h
    rcases j with _ | j
    · rfl
    · rw [show (j + 1) * 2 = j * 2 + 1 + 1 from by omega]; simpa [leapCells] using ih j (by simpa using h)
theorem leapCells_snd (L : List (Int × Int)) : ∀ j, j < L.length → (leapCells L)[j * 2 + 1]? = some (.int .i64 (L.getD j (0, 0)).2) := by
  induction L with
  | nil => intro j h; simp at h
  | cons x l ih =>
    intro j h
    rcases j with _ | j
    · rfl
    · rw [show (j + 1) * 2 + 1 = j * 2 + 1 + 1 + 1 from by omega]; simpa [leapCells] using ih j (by simpa using h)
theorem leapCells_one (L : List (Int × Int)) : ∀ u ∈ leapCells L, u.oneCell' = true := by
  induction L with
  | nil => intro u h; cases h
  | cons x l ih =>
    intro u h
    simp only [leapCells, List.mem_cons] at h
    rcases h with rfl | rfl | h
    · rfl
    · rfl
    · exact ih u h
theorem leapCells_at (L : List (Int × Int)) (b : Nat) (w : World) (d1 : ∀ j, j < L.length → w.cell? ⟨b, j * 2, none⟩ = some (.int .i64 (L.getD j (0, 0)).1)) (d2 : ∀ j, j < L.length → w.cell? ⟨b, j * 2 + 1, none⟩ = some (.int .i64 (L.getD j (0, 0)).2)) :
    ∀ j u, (leapCells L)[j]? = some u → w.cell? ⟨b, 0 + j, none⟩ = some u := by
  intro j u h
  have hj := (List.getElem?_eq_some_iff.1 h).1
  rw [leapCells_len] at hj
  rw [Nat.zero_add]
  rcases Nat.mod_two_eq_zero_or_one j with e | e
  · have : j = j / 2 * 2 := by omega
    rw [this] at h ⊢
    rw [leapCells_fst L (j / 2) (by omega)] at h
    rw [d1 (j / 2) (by omega)]; exact h
  · have : j = j / 2 * 2 + 1 := by omega
    rw [this] at h ⊢
    rw [leapCells_snd L (j / 2) (by omega)] at h
    rw [d2 (j / 2) (by omega)]; exact h

/-- A copy of the leaps; of none it may be nil. -/
theorem clone_t (L : List (Int × Int)) (lb c : Nat) (w : World) (hl : L.length ≤ 1000)
    (d1 : ∀ j, j < L.length → w.cell? ⟨lb, j * 2, none⟩ = some (.int .i64 (L.getD j (0, 0)).1)) (d2 : ∀ j, j < L.length → w.cell? ⟨lb, j * 2 + 1, none⟩ = some (.int .i64 (L.getD j (0, 0)).2)) :
    Calls Tryd.prog 28 #[.slice (some ⟨lb, 0, none⟩) L.length c] w fun e w' => ∃ v', e = .returned v' ∧ w'.ownsRow w.heap.size 56 2 v' L.length (leapCells L) ∧ Below w.heap.size w w' := by
  obtain ⟨i0, hi0, hz0, hz1, hz2⟩ := info_parts infoLeap
  refine (Tryd.slices_Clone i0 _ 2 16 hi0 hz0 hz1 hz2 rfl (by omega) (fun w => by go_simp) lb 0 L.length c (leapCells L) w (leapCells_len L) (by unfold maxLen; omega) (by omega) (leapCells_at L lb w d1 d2) (leapCells_one L)).mono ?_
  rintro e w' ⟨v', rfl, h, _, hb⟩
  exact ⟨v', rfl, h, hb⟩
end Go.Proofs.YtmjmoihggojpiaaDoor
