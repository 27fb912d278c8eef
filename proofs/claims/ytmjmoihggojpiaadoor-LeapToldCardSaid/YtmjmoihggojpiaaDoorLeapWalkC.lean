/- The walk of leap.Spans. -/
import Derived.Test.YtmjmoihggojpiaaDoorSpanWalkA
import Derived.Test.YtmjmoihggojpiaaDoorLeapWalkA
import Derived.Test.YtmjmoihggojpiaaDoorWorldAid
set_option linter.unusedSimpArgs false
set_option linter.unusedVariables false
namespace Go.Proofs.YtmjmoihggojpiaaDoor
open Go.RowKit Civ
attribute [local go_sem] isSome_setCell

def spansBad (lo hi : Int) (k : Bool) : Bool := !k || !spanOk lo hi || decide (lo < 0)
def spansOk (off : Int) (a b v : Bool) (lo hi : Int) (k : Bool) : Bool := !spansBad lo hi k && ((byOut off a b v (lo / 1000000000)).2 && (byOut off a b v (hi / 1000000000)).2)
def spansLow (off : Int) (a b v : Bool) (lo hi : Int) (k : Bool) : Lab := if spansOk off a b v lo hi k = true then (byOut off a b v (lo / 1000000000)).1 else Lab.zero
def spansHigh (off : Int) (a b v : Bool) (lo hi : Int) (k : Bool) : Lab := if spansOk off a b v lo hi k = true then (byOut off a b v (hi / 1000000000)).1 else Lab.zero

theorem spans_no (off : Int) (a b v : Bool) (lo hi : Int) (k : Bool) (h : spansOk off a b v lo hi k = false) : spansLow off a b v lo hi k = Lab.zero ∧ spansHigh off a b v lo hi k = Lab.zero := by
  unfold spansLow spansHigh; rw [h]; exact ⟨rfl, rfl⟩
theorem spans_yes (off : Int) (a b v : Bool) (lo hi : Int) (k : Bool) (h : spansOk off a b v lo hi k = true) :
    spansLow off a b v lo hi k = (byOut off a b v (lo / 1000000000)).1 ∧ spansHigh off a b v lo hi k = (byOut off a b v (hi / 1000000000)).1 := by
  unfold spansLow spansHigh; rw [if_pos h, if_pos h]; exact ⟨rfl, rfl⟩
theorem spansOk_bad (off : Int) (a b v : Bool) (lo hi : Int) (k : Bool) (h : spansBad lo hi k = true) : spansOk off a b v lo hi k = false := by unfold spansOk; rw [h]; rfl

theorem floor_sec (x : Int) (h0 : 0 ≤ x) (h1 : x ≤ 4611686018427387904) (w : World) :
    Calls Tryd.prog 23 #[.int .i64 x, .int .i64 1, .int .i64 1000000000] w fun e w' => e = .returned (.tuple #[.int .i64 (x / 1000000000), .bool true]) ∧ Below w.heap.size w w' := by
  have h := floor_t x 1 1000000000 w
  have e : floorOk x 1 1000000000 = true := by
    unfold floorOk
    rw [(small_iff x).2 ⟨by omega, h1⟩, Int.mul_one, (small_iff (x / 1000000000)).2 ⟨by omega, by omega⟩]; rfl
  rw [floorV_yes _ _ _ e, e, Int.mul_one] at h
  exact h

set_option maxHeartbeats 2000000 in
theorem spans_bad (off : Int) (a b v : Bool) (lo hi : Int) (k : Bool) (w : World) (h : spansBad lo hi k = true) :
    Calls Tryd.prog 9 #[.agg #[.int .i64 off, .bool a, .bool b, .bool v], .agg #[.int .i64 lo, .int .i64 hi, .bool k]] w fun e w' => e = .returned (.tuple #[Lab.zero.val, Lab.zero.val, .bool false]) ∧ Below w.heap.size w w' := by
  cases k
  · clear h
    go_enter Tryd.func9, Tryd.ntmps9
    go_wp2_with fail
    exact bodyPost_ret (v := .tuple #[Lab.zero.val, Lab.zero.val, .bool false]) (by simp [results, Tryd.results9, go_sem, Lab.zero]) rfl ⟨rfl, ((((Below.refl _ _).alloc (Nat.le_refl _) _).alloc (by simp) _).alloc (by simp; omega) _).alloc (by simp; omega) _⟩
  · cases hs : spanOk lo hi
    · have HS := Lib.hid hs; clear hs h
      go_enter Tryd.func9, Tryd.ntmps9
      go_wp2_with fail
      refine (spanRight_known lo hi _).mono ?_
      rintro e w1 ⟨rfl, hb1⟩
      rw [HS.out]
      obtain ⟨hc, hf⟩ := bcell2 hb1
      have hz : w.heap.size + 3 < w1.heap.size := by have := hb1.size; simp at this; omega
      go_wp2_with fail
      exact bodyPost_ret (v := .tuple #[Lab.zero.val, Lab.zero.val, .bool false]) (by simp [results, Tryd.results9, go_sem, Lab.zero, hc, hz]) rfl ⟨rfl, by (repeat (with_reducible refine Below.setCell ?_ (by simp <;> omega) _)); exact ((((((Below.refl _ _).alloc (Nat.le_refl _) _).alloc (by simp) _).alloc (by simp; omega) _).alloc (by simp; omega) _).trans (hb1.mono (by simp; omega)))⟩
    · have hlo : lo < 0 := by
        unfold spansBad at h; rw [hs] at h; simpa using h
      have HS := Lib.hid hs; clear hs h
      go_enter Tryd.func9, Tryd.ntmps9
      go_wp2_with fail
      refine (spanRight_known lo hi _).mono ?_
      rintro e w1 ⟨rfl, hb1⟩
      rw [HS.out]
      obtain ⟨hc, hf⟩ := bcell2 hb1
      have hz : w.heap.size + 3 < w1.heap.size := by have := hb1.size; simp at this; omega
      go_wp2_with fail
      exact bodyPost_ret (v := .tuple #[Lab.zero.val, Lab.zero.val, .bool false]) (by simp [results, Tryd.results9, go_sem, Lab.zero, hc, hz]) rfl ⟨rfl, by (repeat (with_reducible refine Below.setCell ?_ (by simp <;> omega) _)); exact ((((((Below.refl _ _).alloc (Nat.le_refl _) _).alloc (by simp) _).alloc (by simp; omega) _).alloc (by simp; omega) _).trans (hb1.mono (by simp; omega)))⟩

set_option maxHeartbeats 4000000 in
theorem spans_good (off : Int) (a b v : Bool) (lo hi : Int) (w : World) (ho1 : -2000000000000000 ≤ off) (ho2 : off ≤ 2000000000000000) (hs : spanOk lo hi = true) (h0 : 0 ≤ lo) :
    Calls Tryd.prog 9 #[.agg #[.int .i64 off, .bool a, .bool b, .bool v], .agg #[.int .i64 lo, .int .i64 hi, .bool true]] w fun e w' => e = .returned (.tuple #[(spansLow off a b v lo hi true).val, (spansHigh off a b v lo hi true).val, .bool (spansOk off a b v lo hi true)]) ∧ Below w.heap.size w w' := by
  have hh := hs
  unfold spanOk at hh
  rw [Bool.and_eq_true, Bool.and_eq_true, small_iff, small_iff, decide_eq_true_iff] at hh
  obtain ⟨⟨⟨_, hl1⟩, ⟨_, hh1⟩⟩, hlh⟩ := hh
  have HB : Hid (spansBad lo hi true = false) := by
    show _ = false
    unfold spansBad; rw [hs, decide_eq_false (by omega)]; rfl
  have HS := Lib.hid hs; clear hs
  have q1 : 0 ≤ lo / 1000000000 ∧ lo / 1000000000 ≤ 4611686019 := by omega
  have q2 : 0 ≤ hi / 1000000000 ∧ hi / 1000000000 ≤ 4611686019 := by omega
  have HO : Hid (spansOk off a b v lo hi true = ((byOut off a b v (lo / 1000000000)).2 && (byOut off a b v (hi / 1000000000)).2)) := by
    show _ = _
    unfold spansOk; rw [HB.out]; rfl
  obtain ⟨L1, k1, E1⟩ : ∃ L k, byOut off a b v (lo / 1000000000) = (L, k) := ⟨_, _, rfl⟩
  obtain ⟨L2, k2, E2⟩ : ∃ L k, byOut off a b v (hi / 1000000000) = (L, k) := ⟨_, _, rfl⟩
  have B1 : Hid (∀ W, Calls Tryd.prog 7 #[.agg #[.int .i64 off, .bool a, .bool b, .bool v], .int .i64 (lo / 1000000000)] W fun e w' => e = .returned (.tuple #[L1.val, .bool k1]) ∧ Below W.heap.size W w') := fun W => by
    have := by_t off a b v (lo / 1000000000) W ho1 ho2 (by omega) (by omega)
    rw [E1] at this; exact this
  have B2 : Hid (∀ W, Calls Tryd.prog 7 #[.agg #[.int .i64 off, .bool a, .bool b, .bool v], .int .i64 (hi / 1000000000)] W fun e w' => e = .returned (.tuple #[L2.val, .bool k2]) ∧ Below W.heap.size W w') := fun W => by
    have := by_t off a b v (hi / 1000000000) W ho1 ho2 (by omega) (by omega)
    rw [E2] at this; exact this
  rw [E1, E2] at HO
  have HL : Hid (spansOk off a b v lo hi true = true → spansLow off a b v lo hi true = L1 ∧ spansHigh off a b v lo hi true = L2) := fun h => by
    have := spans_yes _ _ _ _ _ _ _ h
    rw [E1, E2] at this; exact this
  clear E1 E2
  obtain ⟨q1a, q1b⟩ := q1
  obtain ⟨q2a, q2b⟩ := q2
  go_enter Tryd.func9, Tryd.ntmps9
  go_wp2_with fail
  refine (spanRight_known lo hi _).mono ?_
  rintro e w1 ⟨rfl, hb1⟩
  rw [HS.out]
  obtain ⟨hc1, hf1⟩ := bcell2 hb1
  have hz1 : w.heap.size + 3 < w1.heap.size := by have := hb1.size; simp at this; omega
  have hz1a : w.heap.size < w1.heap.size := by omega
  have hz1b : w.heap.size + 1 < w1.heap.size := by omega
  have hz1c : w.heap.size + 1 + 1 < w1.heap.size := by omega
  have hz1d : w.heap.size + 1 + 1 + 1 < w1.heap.size := by omega
  go_wp2_with fail
  refine (floor_sec lo h0 hl1 _).mono ?_
  rintro e w2 ⟨rfl, hb2⟩
  obtain ⟨hc2, hf2⟩ := bcell2 hb2
  have hz2 : w.heap.size + 3 < w2.heap.size := by have := hb2.size; omega
  have hz2a : w.heap.size < w2.heap.size := by omega
  have hz2b : w.heap.size + 1 < w2.heap.size := by omega
  have hz2c : w.heap.size + 1 + 1 < w2.heap.size := by omega
  have hz2d : w.heap.size + 1 + 1 + 1 < w2.heap.size := by omega
  go_wp2_with fail
  refine (floor_sec hi (by omega) hh1 _).mono ?_
  rintro e w3 ⟨rfl, hb3⟩
  obtain ⟨hc3, hf3⟩ := bcell2 hb3
  have hz3 : w.heap.size + 3 < w3.heap.size := by have := hb3.size; omega
  have hz3a : w.heap.size < w3.heap.size := by omega
  have hz3b : w.heap.size + 1 < w3.heap.size := by omega
  have hz3c : w.heap.size + 1 + 1 < w3.heap.size := by omega
  have hz3d : w.heap.size + 1 + 1 + 1 < w3.heap.size := by omega
  go_wp2_with fail
  refine (B1.out _).mono ?_
  rintro e w4 ⟨rfl, hb4⟩
  obtain ⟨hc4, hf4⟩ := bcell2 hb4
  have hz4 : w.heap.size + 3 < w4.heap.size := by have := hb4.size; omega
  have hz4a : w.heap.size < w4.heap.size := by omega
  have hz4b : w.heap.size + 1 < w4.heap.size := by omega
  have hz4c : w.heap.size + 1 + 1 < w4.heap.size := by omega
  have hz4d : w.heap.size + 1 + 1 + 1 < w4.heap.size := by omega
  go_wp2_with fail
  refine (B2.out _).mono ?_
  rintro e w5 ⟨rfl, hb5⟩
  obtain ⟨hc5, hf5⟩ := bcell2 hb5
  have hz5 : w.heap.size + 3 < w5.heap.size := by have := hb5.size; simp at this; omega
  have hz5a : w.heap.size < w5.heap.size := by omega
  have hz5b : w.heap.size + 1 < w5.heap.size := by omega
  have hz5c : w.heap.size + 1 + 1 < w5.heap.size := by omega
  have hz5d : w.heap.size + 1 + 1 + 1 < w5.heap.size := by omega
  have c20 : w5.cell? ⟨w.heap.size + 1 + 1, 0, none⟩ = some (.int .i64 L1.y) := by go_simp
  have c21 : w5.cell? ⟨w.heap.size + 1 + 1, 1, none⟩ = some (.int .i64 L1.mo) := by go_simp
  have c22 : w5.cell? ⟨w.heap.size + 1 + 1, 2, none⟩ = some (.int .i64 L1.d) := by go_simp
  have c23 : w5.cell? ⟨w.heap.size + 1 + 1, 3, none⟩ = some (.int .i64 L1.h) := by go_simp
  have c24 : w5.cell? ⟨w.heap.size + 1 + 1, 4, none⟩ = some (.int .i64 L1.mi) := by go_simp
  have c25 : w5.cell? ⟨w.heap.size + 1 + 1, 5, none⟩ = some (.int .i64 L1.s) := by go_simp
  have c30 : w5.cell? ⟨w.heap.size + 1 + 1 + 1, 0, none⟩ = some (.int .i64 0) := by go_simp
  have c31 : w5.cell? ⟨w.heap.size + 1 + 1 + 1, 1, none⟩ = some (.int .i64 0) := by go_simp
  have c32 : w5.cell? ⟨w.heap.size + 1 + 1 + 1, 2, none⟩ = some (.int .i64 0) := by go_simp
  have c33 : w5.cell? ⟨w.heap.size + 1 + 1 + 1, 3, none⟩ = some (.int .i64 0) := by go_simp
  have c34 : w5.cell? ⟨w.heap.size + 1 + 1 + 1, 4, none⟩ = some (.int .i64 0) := by go_simp
  have c35 : w5.cell? ⟨w.heap.size + 1 + 1 + 1, 5, none⟩ = some (.int .i64 0) := by go_simp
  have f2 : ∀ j, w5.frozen? ⟨w.heap.size + 1 + 1, j, none⟩ = false := fun j => by go_simp
  have f3 : ∀ j, w5.frozen? ⟨w.heap.size + 1 + 1 + 1, j, none⟩ = false := fun j => by go_simp
  clear hc1 hc2 hc3 hc4 hc5 hf1 hf2 hf3 hf4 hf5
  cases k1 <;> cases k2
  · have HN : Hid (spansOk off a b v lo hi true = false) := by rw [HO.out]; rfl
    go_wp2_with fail
    exact bodyPost_ret (v := .tuple #[Lab.zero.val, Lab.zero.val, .bool false]) (by simp only [results, Tryd.results9, Lab.zero]; go_simp) rfl ⟨by rw [(spans_no _ _ _ _ _ _ _ HN.out).1, (spans_no _ _ _ _ _ _ _ HN.out).2, HN.out], by (try with_reducible refine Below.drew ?_); (repeat (with_reducible refine Below.setCell ?_ (by simp <;> omega) _)); refine Below.trans ?_ (hb5.mono (by simp; omega)); (repeat (with_reducible refine Below.setCell ?_ (by simp <;> omega) _)); exact ((((((((Below.refl _ _).alloc (Nat.le_refl _) _).alloc (by simp) _).alloc (by simp; omega) _).alloc (by simp; omega) _).trans (hb1.mono (by simp; omega))).trans (hb2.mono (by omega))).trans (hb3.mono (by omega))).trans (hb4.mono (by omega))⟩
  · have HN : Hid (spansOk off a b v lo hi true = false) := by rw [HO.out]; rfl
    go_wp2_with fail
    exact bodyPost_ret (v := .tuple #[Lab.zero.val, Lab.zero.val, .bool false]) (by simp only [results, Tryd.results9, Lab.zero]; go_simp) rfl ⟨by rw [(spans_no _ _ _ _ _ _ _ HN.out).1, (spans_no _ _ _ _ _ _ _ HN.out).2, HN.out], by (try with_reducible refine Below.drew ?_); (repeat (with_reducible refine Below.setCell ?_ (by simp <;> omega) _)); refine Below.trans ?_ (hb5.mono (by simp; omega)); (repeat (with_reducible refine Below.setCell ?_ (by simp <;> omega) _)); exact ((((((((Below.refl _ _).alloc (Nat.le_refl _) _).alloc (by simp) _).alloc (by simp; omega) _).alloc (by simp; omega) _).trans (hb1.mono (by simp; omega))).trans (hb2.mono (by omega))).trans (hb3.mono (by omega))).trans (hb4.mono (by omega))⟩
  · have HN : Hid (spansOk off a b v lo hi true = false) := by rw [HO.out]; rfl
    go_wp2_with fail
    exact bodyPost_ret (v := .tuple #[Lab.zero.val, Lab.zero.val, .bool false]) (by simp only [results, Tryd.results9, Lab.zero]; go_simp) rfl ⟨by rw [(spans_no _ _ _ _ _ _ _ HN.out).1, (spans_no _ _ _ _ _ _ _ HN.out).2, HN.out], by (try with_reducible refine Below.drew ?_); (repeat (with_reducible refine Below.setCell ?_ (by simp <;> omega) _)); refine Below.trans ?_ (hb5.mono (by simp; omega)); (repeat (with_reducible refine Below.setCell ?_ (by simp <;> omega) _)); exact ((((((((Below.refl _ _).alloc (Nat.le_refl _) _).alloc (by simp) _).alloc (by simp; omega) _).alloc (by simp; omega) _).trans (hb1.mono (by simp; omega))).trans (hb2.mono (by omega))).trans (hb3.mono (by omega))).trans (hb4.mono (by omega))⟩
  · have HN : Hid (spansOk off a b v lo hi true = true) := by rw [HO.out]; rfl
    go_wp2_with fail
    go_region
    all_goals go_wp2
    all_goals refine bodyPost_ret (v := .tuple #[L1.val, L2.val, .bool true]) (by simp only [results, Tryd.results9]; go_simp) rfl ⟨by rw [(HL.out HN.out).1, (HL.out HN.out).2, HN.out], by (try with_reducible refine Below.drew ?_); (repeat (with_reducible refine Below.setCell ?_ (by simp <;> omega) _)); refine Below.trans ?_ (hb5.mono (by simp; omega)); (repeat (with_reducible refine Below.setCell ?_ (by simp <;> omega) _)); exact ((((((((Below.refl _ _).alloc (Nat.le_refl _) _).alloc (by simp) _).alloc (by simp; omega) _).alloc (by simp; omega) _).trans (hb1.mono (by simp; omega))).trans (hb2.mono (by omega))).trans (hb3.mono (by omega))).trans (hb4.mono (by omega))⟩
end Go.Proofs.YtmjmoihggojpiaaDoor
