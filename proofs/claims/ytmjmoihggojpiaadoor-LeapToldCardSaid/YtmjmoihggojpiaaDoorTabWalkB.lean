/- The walk of happened. -/
import Derived.Test.YtmjmoihggojpiaaDoorTabWalkA
import Derived.IntWalk
set_option linter.unusedSimpArgs false
set_option linter.unusedVariables false
namespace Go.Proofs.YtmjmoihggojpiaaDoor
open Go.RowKit Civ

set_option maxHeartbeats 1000000 in
theorem happened_t (tai : Int) (L : List (Int × Int)) (S : List Int) (tb lb sb lc sc n : Nat) (la sa : Option Addr) (w : World) (hnS : n = S.length) (hnL : n = L.length) (hl : n ≤ 1000)
    (hla : 0 < n → la = some ⟨lb, 0, none⟩) (hsa : 0 < n → sa = some ⟨sb, 0, none⟩)
    (c0 : w.cell? ⟨tb, 0, none⟩ = some (.slice la n lc)) (c2 : w.cell? ⟨tb, 2, none⟩ = some (.slice sa n sc))
    (cl : ∀ j, j < n → w.cell? ⟨lb, j * 2 + 1, none⟩ = some (.int .i64 (L.getD j (0, 0)).2))
    (cs : ∀ j, j < S.length → w.cell? ⟨sb, j, none⟩ = some (.int .i64 (S.getD j 0))) :
    Calls Tryd.prog 25 #[.pointer (some ⟨tb, 0, none⟩), .int .i64 tai] w fun e w' => e = .returned (.tuple #[.int .i64 (cnt tai S), .bool (secOf tai L S)]) ∧ Below w.heap.size w w' := by
  have hmf : ∀ (fn : Fn) (first cap : Array Value) (w : World), (Instr.makeFunc fn first cap).run Tryd.prog w = .ok (.func fn first cap) w := fun _ _ _ _ => rfl
  have l0 := World.block_lt_of_cell? w _ c0
  have HC : Hid (Calls Tryd.prog 39 #[.slice sa n sc, .func (.func 40) #[] #[.pointer (some ⟨w.heap.size, 0, none⟩)]] (w.alloc (.cells #[.int .i64 tai] 3)) fun e w' =>
      e = .returned (.int .i64 (cnt tai S)) ∧ Below (w.alloc (.cells #[.int .i64 tai] 3)).heap.size (w.alloc (.cells #[.int .i64 tai] 3)) w') :=
    count_t S tai sa sb sc n w.heap.size _ hnS (by omega) hsa
      (fun j hj => by rw [World.cell?_alloc_past _ _ _ (World.block_lt_of_cell? w _ (cs j hj))]; exact cs j hj)
      (by rw [World.cell?_alloc_at _ _ _ _ rfl]; rfl)
  have hle := cnt_le tai S
  have CL := Lib.hid cl
  have CS := Lib.hid cs
  clear cl cs
  cases hk : cnt tai S with
  | zero =>
    have HS := Lib.hid (secOf_zero tai L S hk)
    rw [hk] at HC
    have HK := Lib.hid hk
    clear hk hle
    rw [HS.out]
    have HN := Lib.hid hnS
    have HM := Lib.hid hnL
    clear hnS hnL hla hsa
    go_enter Tryd.func25, Tryd.ntmps25
    go_wp2_with fail
    refine HC.out.mono ?_
    rintro e w1 ⟨rfl, hb1⟩
    go_wp2_with fail
    go_region
    go_wp2
    go_ret2
    exact ⟨rfl, (((Below.refl _ _).alloc (Nat.le_refl _) _).trans (hb1.mono (by simp))).drew⟩
  | succ m =>
    have hm : m < n := by omega
    have HS := Lib.hid (secOf_succ tai L S m hk)
    rw [hk, show (((m + 1 : Nat) : Int)) = (m : Int) + 1 from by omega] at HC
    rw [show (((m + 1 : Nat) : Int)) = (m : Int) + 1 from by omega]
    obtain rfl : la = some ⟨lb, 0, none⟩ := hla (by omega)
    obtain rfl : sa = some ⟨sb, 0, none⟩ := hsa (by omega)
    have d1 := CL.out m hm
    have d2 := CS.out m (by omega)
    have l1 := World.block_lt_of_cell? w _ d1
    have l2 := World.block_lt_of_cell? w _ d2
    clear hla hsa hk hle
    obtain ⟨sg, hsg⟩ : ∃ x, x = (L.getD m (0, 0)).2 := ⟨_, rfl⟩
    obtain ⟨st, hst⟩ : ∃ x, x = S.getD m 0 := ⟨_, rfl⟩
    rw [← hsg] at d1 HS
    rw [← hst] at d2 HS
    have G1 := Lib.hid hsg
    have G2 := Lib.hid hst
    have HN := Lib.hid hnS
    have HM := Lib.hid hnL
    clear hsg hst hnS hnL
    by_cases h1 : 0 < sg
    · by_cases h2 : st = tai
      · rw [show secOf tai L S = true from by rw [HS.out, decide_eq_true h1, decide_eq_true h2]; rfl]
        go_enter Tryd.func25, Tryd.ntmps25
        go_wp2_with fail
        refine HC.out.mono ?_
        rintro e w1 ⟨rfl, hb1⟩
        have e0 : w1.cell? ⟨tb, 0, none⟩ = some (.slice (some ⟨lb, 0, none⟩) n lc) := (hb1.cell (p := ⟨tb, 0, none⟩) (by simp; omega)).trans (by rw [World.cell?_alloc_past _ _ _ l0]; exact c0)
        have e1 : w1.cell? ⟨lb, m * 2 + 1, none⟩ = some (.int .i64 sg) := (hb1.cell (p := ⟨lb, m * 2 + 1, none⟩) (by simp; omega)).trans (by rw [World.cell?_alloc_past _ _ _ l1]; exact d1)
        have e2 : w1.cell? ⟨tb, 2, none⟩ = some (.slice (some ⟨sb, 0, none⟩) n sc) := (hb1.cell (p := ⟨tb, 2, none⟩) (by simp; omega)).trans (by rw [World.cell?_alloc_past _ _ _ l0]; exact c2)
        have e3 : w1.cell? ⟨sb, m, none⟩ = some (.int .i64 st) := (hb1.cell (p := ⟨sb, m, none⟩) (by simp; omega)).trans (by rw [World.cell?_alloc_past _ _ _ l2]; exact d2)
        have e4 : w1.cell? ⟨w.heap.size, 0, none⟩ = some (.int .i64 tai) := (hb1.cell (p := ⟨w.heap.size, 0, none⟩) (by simp)).trans (by rw [World.cell?_alloc_at _ _ _ _ rfl]; rfl)
        have z0 : decide ((0 : Int) < (m : Int) + 1) = true := decide_eq_true (by omega)
        have z1 : decide (0 < sg) = true := decide_eq_true h1
        have z2 : (0 : Int) ≤ (m : Int) := by omega
        have z3 : (m : Int) < (n : Int) := by omega
        have W1 : IntKind.i64.wrap (m : Int) = (m : Int) := IntWalk.i64_in _ (by omega)
        have z5 : (st == tai) = true := by rw [beq_iff_eq]; exact h2
        clear h2
        go_wp2_with fail
        go_quiet (fail)
        go_wp2
        go_ret2
        exact ⟨rfl, below_drewN (((Below.refl _ _).alloc (Nat.le_refl _) _).trans (hb1.mono (by simp))) _⟩
      · rw [show secOf tai L S = false from by rw [HS.out, decide_eq_true h1, decide_eq_false h2]; rfl]
        go_enter Tryd.func25, Tryd.ntmps25
        go_wp2_with fail
        refine HC.out.mono ?_
        rintro e w1 ⟨rfl, hb1⟩
        have e0 : w1.cell? ⟨tb, 0, none⟩ = some (.slice (some ⟨lb, 0, none⟩) n lc) := (hb1.cell (p := ⟨tb, 0, none⟩) (by simp; omega)).trans (by rw [World.cell?_alloc_past _ _ _ l0]; exact c0)
        have e1 : w1.cell? ⟨lb, m * 2 + 1, none⟩ = some (.int .i64 sg) := (hb1.cell (p := ⟨lb, m * 2 + 1, none⟩) (by simp; omega)).trans (by rw [World.cell?_alloc_past _ _ _ l1]; exact d1)
        have e2 : w1.cell? ⟨tb, 2, none⟩ = some (.slice (some ⟨sb, 0, none⟩) n sc) := (hb1.cell (p := ⟨tb, 2, none⟩) (by simp; omega)).trans (by rw [World.cell?_alloc_past _ _ _ l0]; exact c2)
        have e3 : w1.cell? ⟨sb, m, none⟩ = some (.int .i64 st) := (hb1.cell (p := ⟨sb, m, none⟩) (by simp; omega)).trans (by rw [World.cell?_alloc_past _ _ _ l2]; exact d2)
        have e4 : w1.cell? ⟨w.heap.size, 0, none⟩ = some (.int .i64 tai) := (hb1.cell (p := ⟨w.heap.size, 0, none⟩) (by simp)).trans (by rw [World.cell?_alloc_at _ _ _ _ rfl]; rfl)
        have z0 : decide ((0 : Int) < (m : Int) + 1) = true := decide_eq_true (by omega)
        have z1 : decide (0 < sg) = true := decide_eq_true h1
        have z2 : (0 : Int) ≤ (m : Int) := by omega
        have z3 : (m : Int) < (n : Int) := by omega
        have W1 : IntKind.i64.wrap (m : Int) = (m : Int) := IntWalk.i64_in _ (by omega)
        have z5 : (st == tai) = false := by rw [beq_eq_false_iff_ne]; exact h2
        clear h2
        go_wp2_with fail
        go_quiet (fail)
        go_wp2
        go_ret2
        exact ⟨rfl, below_drewN (((Below.refl _ _).alloc (Nat.le_refl _) _).trans (hb1.mono (by simp))) _⟩
    · rw [show secOf tai L S = false from by rw [HS.out, decide_eq_false h1]; rfl]
      go_enter Tryd.func25, Tryd.ntmps25
      go_wp2_with fail
      refine HC.out.mono ?_
      rintro e w1 ⟨rfl, hb1⟩
      have e0 : w1.cell? ⟨tb, 0, none⟩ = some (.slice (some ⟨lb, 0, none⟩) n lc) := (hb1.cell (p := ⟨tb, 0, none⟩) (by simp; omega)).trans (by rw [World.cell?_alloc_past _ _ _ l0]; exact c0)
      have e1 : w1.cell? ⟨lb, m * 2 + 1, none⟩ = some (.int .i64 sg) := (hb1.cell (p := ⟨lb, m * 2 + 1, none⟩) (by simp; omega)).trans (by rw [World.cell?_alloc_past _ _ _ l1]; exact d1)
      have z0 : decide ((0 : Int) < (m : Int) + 1) = true := decide_eq_true (by omega)
      have z1 : decide (0 < sg) = false := decide_eq_false (by omega)
      have z2 : (0 : Int) ≤ (m : Int) := by omega
      have z3 : (m : Int) < (n : Int) := by omega
      have W1 : IntKind.i64.wrap (m : Int) = (m : Int) := IntWalk.i64_in _ (by omega)
      go_wp2_with fail
      go_quiet (fail)
      go_wp2
      go_ret2
      exact ⟨rfl, below_drewN (((Below.refl _ _).alloc (Nat.le_refl _) _).trans (hb1.mono (by simp))) _⟩
end Go.Proofs.YtmjmoihggojpiaaDoor
