/- The walks of slices.IndexFunc at leap's closures, and of leap.count and happened. -/
import Derived.Test.YtmjmoihggojpiaaDoorCivWalkD
import Derived.Test.YtmjmoihggojpiaaDoorTabPlain
set_option linter.unusedSimpArgs false
set_option linter.unusedVariables false
namespace Go.Proofs.YtmjmoihggojpiaaDoor
open Go.RowKit Civ

theorem hap1_t (n tai : Int) (C : Nat) (w : World) (hC : w.cell? ⟨C, 0, none⟩ = some (.int .i64 tai)) :
    Calls Tryd.prog 40 #[.int .i64 n, .pointer (some ⟨C, 0, none⟩)] w fun e w' => e = .returned (.bool (decide (n ≤ tai))) ∧ w = w' := by
  go_enter Tryd.func40, Tryd.ntmps40
  go_wp2_with fail
  go_ret
  exact ⟨rfl, rfl⟩

theorem count1_t (n tai : Int) (B C : Nat) (w : World) (hB : w.cell? ⟨B, 0, none⟩ = some (.func (.func 40) #[] #[.pointer (some ⟨C, 0, none⟩)])) (hC : w.cell? ⟨C, 0, none⟩ = some (.int .i64 tai)) :
    Calls Tryd.prog 50 #[.int .i64 n, .pointer (some ⟨B, 0, none⟩)] w fun e w' => e = .returned (.bool (!decide (n ≤ tai))) ∧ w = w' := by
  go_enter Tryd.func50, Tryd.ntmps50
  go_wp2_with (go_at_call 40; refine (hap1_t n tai C _ hC).mono ?_; rintro e w' ⟨rfl, rfl⟩)
  go_ret
  exact ⟨rfl, rfl⟩

set_option maxHeartbeats 1000000 in
theorem indexFunc_t (xs : List Int) (tai : Int) (sa : Option Addr) (sb c n B C : Nat) (w : World) (hn : n = xs.length) (hl : n ≤ 1000000) (ha : 0 < n → sa = some ⟨sb, 0, none⟩)
    (hc : ∀ j, j < xs.length → w.cell? ⟨sb, j, none⟩ = some (.int .i64 (xs.getD j 0)))
    (hB : w.cell? ⟨B, 0, none⟩ = some (.func (.func 40) #[] #[.pointer (some ⟨C, 0, none⟩)])) (hC : w.cell? ⟨C, 0, none⟩ = some (.int .i64 tai)) :
    Calls Tryd.prog 49 #[.slice sa n c, .func (.func 50) #[] #[.pointer (some ⟨B, 0, none⟩)]] w fun e w' =>
      e = .returned (.int .i64 (idxGt tai xs)) ∧ w = w' := by
  subst hn
  have HC := Lib.hid hc; clear hc
  have HA := Lib.hid ha; clear ha
  have HB := Lib.hid hB; clear hB
  have HT := Lib.hid hC; clear hC
  go_enter Tryd.func49, Tryd.ntmps49
  go_wp2_with fail
  go_loop [5, 8] (fun _ i => ∃ k : Nat, k ≤ xs.length ∧ i = .int .i64 k ∧ Hid (∀ j, j < k → xs.getD j 0 ≤ tai)) (fun _ i => xs.length - (intOf i).toNat)
  case atStart => exact ⟨0, Nat.zero_le _, rfl, fun j hj => by omega⟩
  case round =>
    obtain ⟨k, hk, rfl, ht⟩ := hrel
    by_cases hlt : k < xs.length
    · obtain rfl : sa = some ⟨sb, 0, none⟩ := HA.out (by omega)
      have hcell := HC.out k hlt
      obtain ⟨x, hx⟩ : ∃ x, x = xs.getD k 0 := ⟨_, rfl⟩
      rw [← hx] at hcell
      have HX := Lib.hid hx; clear hx
      by_cases hxt : x ≤ tai
      · have hd : decide (x ≤ tai) = true := decide_eq_true hxt
        go_wp2_with (go_at_call 50; refine (count1_t x tai B C _ HB.out HT.out).mono ?_; rintro e w' ⟨rfl, rfl⟩)
        go_round
        case rel => exact ⟨k + 1, by omega, by go_num, fun j hj => by
          by_cases e : j = k
          · subst e; rw [← HX.out]; exact hxt
          · exact ht.out j (by omega)⟩
        case measure => simp [intOf]; omega
      · have hd : decide (x ≤ tai) = false := decide_eq_false hxt
        have HN : Hid (idxGt tai xs = k) := by
          show _ = _
          unfold idxGt; rw [cnt_of tai xs k hk ht.out (fun _ => by rw [← HX.out]; omega), if_pos hlt]
        go_wp2_with (go_at_call 50; refine (count1_t x tai B C _ HB.out HT.out).mono ?_; rintro e w' ⟨rfl, rfl⟩)
        go_ret
        exact ⟨congrArg (fun x => Ending.returned (.int .i64 x)) (by rw [HN.out]), rfl⟩
    · have HN : Hid (idxGt tai xs = -1) := by
        show _ = _
        unfold idxGt; rw [cnt_of tai xs k hk ht.out (fun h => absurd h hlt), if_neg hlt]
      go_wp2
      go_ret
      exact ⟨congrArg (fun x => Ending.returned (.int .i64 x)) (by rw [HN.out]), rfl⟩

theorem bcell3 {W w1 : World} (hb : Below W.heap.size W w1) : (∀ b o, b < W.heap.size → w1.cell? ⟨b, o, none⟩ = W.cell? ⟨b, o, none⟩) ∧ (∀ b o, b < W.heap.size → w1.frozen? ⟨b, o, none⟩ = W.frozen? ⟨b, o, none⟩) :=
  ⟨fun b o h => hb.cell (p := ⟨b, o, none⟩) h, fun b o h => hb.frozen (p := ⟨b, o, none⟩) h⟩

theorem idxGt_lo (t : Int) (xs : List Int) (h : cnt t xs < xs.length) : idxGt t xs = cnt t xs := by unfold idxGt; rw [if_pos h]
theorem idxGt_hi (t : Int) (xs : List Int) (h : ¬ cnt t xs < xs.length) : idxGt t xs = -1 ∧ xs.length = cnt t xs := by
  have := cnt_le t xs
  exact ⟨by unfold idxGt; rw [if_neg h], by omega⟩

set_option maxHeartbeats 1000000 in
theorem count_t (xs : List Int) (tai : Int) (sa : Option Addr) (sb c n C : Nat) (w : World) (hn : n = xs.length) (hl : n ≤ 1000000) (ha : 0 < n → sa = some ⟨sb, 0, none⟩)
    (hc : ∀ j, j < xs.length → w.cell? ⟨sb, j, none⟩ = some (.int .i64 (xs.getD j 0))) (hC : w.cell? ⟨C, 0, none⟩ = some (.int .i64 tai)) :
    Calls Tryd.prog 39 #[.slice sa n c, .func (.func 40) #[] #[.pointer (some ⟨C, 0, none⟩)]] w fun e w' =>
      e = .returned (.int .i64 (cnt tai xs)) ∧ Below w.heap.size w w' := by
  have hmf : ∀ (fn : Fn) (first cap : Array Value) (w : World), (Instr.makeFunc fn first cap).run Tryd.prog w = .ok (.func fn first cap) w := fun _ _ _ _ => rfl
  have lC := World.block_lt_of_cell? w _ hC
  have HI : Hid (Calls Tryd.prog 49 #[.slice sa n c, .func (.func 50) #[] #[.pointer (some ⟨w.heap.size, 0, none⟩)]] (w.alloc (.cells #[.func (.func 40) #[] #[.pointer (some ⟨C, 0, none⟩)]] 26)) fun e w' =>
      e = .returned (.int .i64 (idxGt tai xs)) ∧ (w.alloc (.cells #[.func (.func 40) #[] #[.pointer (some ⟨C, 0, none⟩)]] 26)) = w') :=
    indexFunc_t xs tai sa sb c n w.heap.size C _ hn hl ha
      (fun j hj => by rw [World.cell?_alloc_past _ _ _ (World.block_lt_of_cell? w _ (hc j hj))]; exact hc j hj)
      (by rw [World.cell?_alloc_at _ _ _ _ rfl]; rfl)
      (by rw [World.cell?_alloc_past _ _ _ lC]; exact hC)
  clear hc hC ha
  have hle := cnt_le tai xs
  by_cases hlt : cnt tai xs < xs.length
  · have HE := Lib.hid (idxGt_lo tai xs hlt)
    subst hn
    go_enter Tryd.func39, Tryd.ntmps39
    go_wp2_with fail
    refine HI.out.mono ?_
    rintro e w' ⟨rfl, rfl⟩
    rw [HE.out]
    go_wp2_with fail
    go_ret
    exact ⟨rfl, (Below.refl _ _).alloc (Nat.le_refl _) _⟩
  · have HE := Lib.hid (idxGt_hi tai xs hlt)
    subst hn
    go_enter Tryd.func39, Tryd.ntmps39
    go_wp2_with fail
    refine HI.out.mono ?_
    rintro e w' ⟨rfl, rfl⟩
    rw [HE.out.1]
    go_wp2_with fail
    go_ret
    exact ⟨congrArg (fun (x : Nat) => Ending.returned (.int .i64 x)) HE.out.2, (Below.refl _ _).alloc (Nat.le_refl _) _⟩
end Go.Proofs.YtmjmoihggojpiaaDoor
