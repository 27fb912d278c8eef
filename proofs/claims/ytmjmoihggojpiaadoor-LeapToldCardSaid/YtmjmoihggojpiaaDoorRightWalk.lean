/- The walks of leap.right and Leap.end. -/
import Derived.Test.YtmjmoihggojpiaaDoorTabWalkD
set_option linter.unusedSimpArgs false
set_option linter.unusedVariables false
namespace Go.Proofs.YtmjmoihggojpiaaDoor
open Go.RowKit Civ

/-- May a leap be behind others? -/
def rightAt (L : List (Int × Int)) (k : Nat) : Bool :=
  decide (1 ≤ (L.getD k (0, 0)).1) && (decide ((L.getD k (0, 0)).1 ≤ 2932895) && (((L.getD k (0, 0)).2 == 1 || (L.getD k (0, 0)).2 == -1) && (k == 0 || decide ((L.getD (k - 1) (0, 0)).1 + 2 ≤ (L.getD k (0, 0)).1))))

set_option maxHeartbeats 4000000 in
theorem lright_t (L : List (Int × Int)) (lb n c k : Nat) (w : World) (hn : n = L.length) (hl : n ≤ 1000) (hk : k < n)
    (d1 : ∀ j, j < L.length → w.cell? ⟨lb, j * 2, none⟩ = some (.int .i64 (L.getD j (0, 0)).1)) (d2 : ∀ j, j < L.length → w.cell? ⟨lb, j * 2 + 1, none⟩ = some (.int .i64 (L.getD j (0, 0)).2))
    (hp : 0 < k → 0 ≤ (L.getD (k - 1) (0, 0)).1 ∧ (L.getD (k - 1) (0, 0)).1 ≤ 3000000) :
    Calls Tryd.prog 29 #[.slice (some ⟨lb, 0, none⟩) n c, .int .i64 k] w fun e w' => e = .returned (.bool (rightAt L k)) ∧ Below w.heap.size w w' := by
  have e1 := d1 k (by omega)
  have e2 := d2 k (by omega)
  have HR : Hid (rightAt L k = _) := rfl
  unfold rightAt at HR
  obtain ⟨⟨x, s⟩, hx⟩ : ∃ x, x = L.getD k (0, 0) := ⟨_, rfl⟩
  rw [← hx] at e1 e2
  have l1 := World.block_lt_of_cell? w _ e1
  obtain ⟨c1, hc1⟩ : ∃ b, decide (1 ≤ x) = b := ⟨_, rfl⟩
  obtain ⟨c2, hc2⟩ : ∃ b, decide (x ≤ 2932895) = b := ⟨_, rfl⟩
  obtain ⟨c3, hc3⟩ : ∃ b, (s == 1) = b := ⟨_, rfl⟩
  obtain ⟨c4, hc4⟩ : ∃ b, (s == -1) = b := ⟨_, rfl⟩
  rcases k with _ | m
  · have hr : rightAt L 0 = (c1 && (c2 && ((c3 || c4) && (true || false)))) := by
      unfold rightAt; rw [← hx, hc1, hc2, hc3, hc4]; simp
    have HR2 := Lib.hid hr
    clear hx HR hr d1 d2 hp
    rw [HR2.out]
    clear HR2
    have z2 : (0 : Int) < (n : Int) := by omega
    clear hn
    have key : c1 = false ∨ (c1 = true ∧ c2 = false) ∨ (c1 = true ∧ c2 = true ∧ c3 = true) ∨ (c1 = true ∧ c2 = true ∧ c3 = false ∧ c4 = true) ∨ (c1 = true ∧ c2 = true ∧ c3 = false ∧ c4 = false) := by
      cases c1 <;> cases c2 <;> cases c3 <;> cases c4 <;> simp
    rcases key with rfl | ⟨rfl, rfl⟩ | ⟨rfl, rfl, rfl⟩ | ⟨rfl, rfl, rfl, rfl⟩ | ⟨rfl, rfl, rfl, rfl⟩
    all_goals
      go_enter Tryd.func29, Tryd.ntmps29
      go_wp2_with fail
      go_quiet (fail)
      go_wp2
      go_ret
      exact ⟨rfl, below_drewN ((Below.refl _ _).alloc (Nat.le_refl _) _) _⟩
  · have f1 := d1 m (by omega)
    have hpp := hp (by omega)
    rw [show m + 1 - 1 = m from by omega] at hpp
    obtain ⟨⟨x', s'⟩, hx'⟩ : ∃ x, x = L.getD m (0, 0) := ⟨_, rfl⟩
    obtain ⟨c5, hc5⟩ : ∃ b, decide (x' + 2 ≤ x) = b := ⟨_, rfl⟩
    have hr : rightAt L (m + 1) = (c1 && (c2 && ((c3 || c4) && (false || c5)))) := by
      unfold rightAt; rw [← hx, show m + 1 - 1 = m from by omega, ← hx', hc1, hc2, hc3, hc4, hc5]; rfl
    have HR2 := Lib.hid hr
    rw [← hx'] at f1 hpp
    simp only [] at hpp
    obtain ⟨p1, p2⟩ := hpp
    have l2 := World.block_lt_of_cell? w _ f1
    clear hx hx' HR hr d1 d2 hp
    rw [HR2.out]
    clear HR2
    have z2 : (m : Int) < (n : Int) := by omega
    have z3 : (0 : Int) ≤ (m : Int) := by omega
    have z4 : (m : Int) + 1 < (n : Int) := by omega
    have z5 : ((m : Int) + 1 == 0) = false := by rw [beq_eq_false_iff_ne]; omega
    have z6 : (0 : Int) ≤ (m : Int) + 1 := by omega
    have W1 : IntKind.i64.wrap (m : Int) = (m : Int) := IntWalk.i64_in _ (by omega)
    have W2 : IntKind.i64.wrap (x' + 2) = x' + 2 := IntWalk.i64_in _ (by omega)
    clear hn
    have key : c1 = false ∨ (c1 = true ∧ c2 = false) ∨ (c1 = true ∧ c2 = true ∧ c3 = true) ∨ (c1 = true ∧ c2 = true ∧ c3 = false ∧ c4 = true) ∨ (c1 = true ∧ c2 = true ∧ c3 = false ∧ c4 = false) := by
      cases c1 <;> cases c2 <;> cases c3 <;> cases c4 <;> simp
    rcases key with rfl | ⟨rfl, rfl⟩ | ⟨rfl, rfl, rfl⟩ | ⟨rfl, rfl, rfl, rfl⟩ | ⟨rfl, rfl, rfl, rfl⟩
    all_goals
      go_enter Tryd.func29, Tryd.ntmps29
      go_wp2_with fail
      go_quiet (fail)
      go_wp2
      go_ret
      exact ⟨rfl, below_drewN ((Below.refl _ _).alloc (Nat.le_refl _) _) _⟩
end Go.Proofs.YtmjmoihggojpiaaDoor
