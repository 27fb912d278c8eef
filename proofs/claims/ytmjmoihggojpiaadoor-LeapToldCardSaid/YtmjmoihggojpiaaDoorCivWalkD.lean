/- The walks of Of and sixtieth, the program's and the reference's. -/
import Derived.Test.YtmjmoihggojpiaaDoorCivWalkC
set_option linter.unusedSimpArgs false
set_option linter.unusedVariables false
namespace Go.Proofs.YtmjmoihggojpiaaDoor
open Go.RowKit Civ

theorem date_t (d : Int) (w : World) (hb : d ≤ 9000000000000000) :
    Calls Tryd.prog 34 #[.int .i64 d] w fun e w' => ∃ v, e = .returned v ∧ Below w.heap.size w w' ∧
      v = if okDay d = true then .tuple #[.int .i64 (yOf d), .int .i64 (mo d), .int .i64 (dOf d), .bool true] else .tuple #[.int .i64 0, .int .i64 0, .int .i64 0, .bool false] := by
  by_cases h : 0 ≤ d ∧ d < 2932897
  · refine (date_yes d w h.1 h.2).mono ?_
    rintro e w' ⟨rfl, hb⟩
    exact ⟨_, rfl, hb, by rw [if_pos ((okDay_iff d).2 h)]⟩
  · refine (date_no d w (by omega) hb).mono ?_
    rintro e w' ⟨rfl, rfl⟩
    exact ⟨_, rfl, Below.refl _ _, by rw [if_neg (by rw [okDay_iff]; exact h)]⟩

theorem ofSec_no (u : Int) (h : u < 0 ∨ 2932897 ≤ u / 86400) : ofSec u = Lab.zero ∧ okSec u = false := by
  have hk : okSec u = false := by
    unfold okSec okDay
    by_cases c : 0 ≤ u
    · have : ¬ u / 86400 < 2932897 := by omega
      simp [this]
    · simp [c]
  exact ⟨by unfold ofSec; rw [hk]; rfl, hk⟩
theorem ofSec_yes (u : Int) (h : 0 ≤ u) (h2 : u / 86400 < 2932897) :
    ofSec u = ⟨yOf (u / 86400), mo (u / 86400), dOf (u / 86400), u % 86400 / 3600, u % 86400 / 60 % 60, u % 86400 % 60⟩ ∧ okSec u = true := by
  have hk : okSec u = true := by
    unfold okSec okDay
    have : 0 ≤ u / 86400 := by omega
    simp [h, h2, this]
  exact ⟨by unfold ofSec; rw [if_pos hk], hk⟩
theorem sixty_no (n : Int) (h : n < 0 ∨ 2932897 ≤ n) : sixty n = Lab.zero ∧ okDay n = false := by
  have hk : okDay n = false := by rw [okDay_not]; omega
  exact ⟨by unfold sixty; rw [hk]; rfl, hk⟩
theorem sixty_yes (n : Int) (h : 0 ≤ n) (h2 : n < 2932897) : sixty n = ⟨yOf n, mo n, dOf n, 23, 59, 60⟩ ∧ okDay n = true := by
  have hk : okDay n = true := by rw [okDay_iff]; exact ⟨h, h2⟩
  exact ⟨by unfold sixty; rw [if_pos hk], hk⟩

theorem bcell {W w1 : World} (hb : Below W.heap.size W w1) : (∀ b o, b < W.heap.size → w1.cell? ⟨b, o, none⟩ = W.cell? ⟨b, o, none⟩) ∧ (∀ b o, b < W.heap.size → w1.frozen? ⟨b, o, none⟩ = W.frozen? ⟨b, o, none⟩) :=
  ⟨fun b o h => hb.cell (p := ⟨b, o, none⟩) h, fun b o h => hb.frozen (p := ⟨b, o, none⟩) h⟩

set_option maxHeartbeats 1000000 in
theorem of_t (u : Int) (w : World) (hb : u ≤ 9000000000000000) :
    Calls Tryd.prog 19 #[.int .i64 u] w fun e w' => e = .returned (.tuple #[(ofSec u).val, .bool (okSec u)]) ∧ Below w.heap.size w w' := by
  by_cases h0 : u < 0
  · obtain ⟨e1, e2⟩ := ofSec_no u (.inl h0)
    rw [e1, e2]; clear e1 e2
    go_enter Tryd.func19, Tryd.ntmps19
    go_wp2_with fail
    exact bodyPost_ret (v := .tuple #[Lab.zero.val, .bool false]) (by simp [results, Tryd.results19, go_sem, Lab.zero]) rfl ⟨rfl, (Below.refl _ _).alloc (Nat.le_refl _) _⟩
  · by_cases h1 : u / 86400 < 2932897
    · obtain ⟨e1, e2⟩ := ofSec_yes u (by omega) h1
      rw [e1, e2]; clear e1 e2
      have hd0 : 0 ≤ u / 86400 := by omega
      go_enter Tryd.func19, Tryd.ntmps19
      go_wp2_with (go_at_call 34; refine (date_yes (u / 86400) _ hd0 h1).mono ?_; rintro e w' ⟨rfl, hb'⟩; obtain ⟨hc, hf⟩ := bcell hb'; have hz : w.heap.size < w'.heap.size := (by have := hb'.size; simp at this; omega))
      exact bodyPost_ret (v := .tuple #[(Lab.mk (yOf (u / 86400)) (mo (u / 86400)) (dOf (u / 86400)) (u % 86400 / 3600) (u % 86400 / 60 % 60) (u % 86400 % 60)).val, .bool true]) (by simp [results, Tryd.results19, go_sem, hc, hz]) rfl ⟨rfl, by (repeat (with_reducible refine Below.setCell ?_ (by simp) _)); exact (((Below.refl _ _).alloc (Nat.le_refl _) _).trans (hb'.mono (by simp)))⟩
    · obtain ⟨e1, e2⟩ := ofSec_no u (.inr (by omega))
      rw [e1, e2]; clear e1 e2
      have hd1 : 2932897 ≤ u / 86400 := by omega
      go_enter Tryd.func19, Tryd.ntmps19
      go_wp2_with (go_at_call 34; refine (date_no (u / 86400) _ (.inr hd1) (by omega)).mono ?_; rintro e w' ⟨rfl, rfl⟩)
      exact bodyPost_ret (v := .tuple #[Lab.zero.val, .bool false]) (by simp [results, Tryd.results19, go_sem, Lab.zero]) rfl ⟨rfl, (Below.refl _ _).alloc (Nat.le_refl _) _⟩

theorem refDate_no (d : Int) (w : World) (h : d < 0 ∨ 2932897 ≤ d) (hb : d ≤ 9000000000000000) :
    Calls Tryd.prog 35 #[.int .i64 d] w fun e w' => e = .returned (.tuple #[Lab.zero.val, .bool false]) ∧ Below w.heap.size w w' := by
  rcases h with h | h
  · exact refDate_neg d w h
  · exact refDate_far d w h hb

set_option maxHeartbeats 1000000 in
theorem refOf_t (u : Int) (w : World) (hb : u ≤ 9000000000000000) :
    Calls Tryd.prog 21 #[.int .i64 u] w fun e w' => e = .returned (.tuple #[(ofSec u).val, .bool (okSec u)]) ∧ Below w.heap.size w w' := by
  by_cases h0 : u < 0
  · obtain ⟨e1, e2⟩ := ofSec_no u (.inl h0)
    rw [e1, e2]; clear e1 e2
    go_enter Tryd.func21, Tryd.ntmps21
    go_wp2_with fail
    exact bodyPost_ret (v := .tuple #[Lab.zero.val, .bool false]) (by simp [results, Tryd.results21, go_sem, Lab.zero]) rfl ⟨rfl, (Below.refl _ _).alloc (Nat.le_refl _) _⟩
  · by_cases h1 : u / 86400 < 2932897
    · obtain ⟨e1, e2⟩ := ofSec_yes u (by omega) h1
      rw [e1, e2]; clear e1 e2
      have hd0 : 0 ≤ u / 86400 := by omega
      rw [show u % 86400 / 60 % 60 = (u % 86400 - u % 86400 / 3600 * 3600) / 60 from by omega, show u % 86400 % 60 = u % 86400 - u % 86400 / 3600 * 3600 - (u % 86400 - u % 86400 / 3600 * 3600) / 60 * 60 from by omega]
      go_enter Tryd.func21, Tryd.ntmps21
      go_wp2_with (go_at_call 35; refine (refDate_yes (u / 86400) _ hd0 h1).mono ?_; rintro e w' ⟨rfl, hb'⟩; obtain ⟨hc, hf⟩ := bcell hb'; have hz : w.heap.size < w'.heap.size := (by have := hb'.size; simp at this; omega))
      exact bodyPost_ret (v := .tuple #[(Lab.mk (yOf (u / 86400)) (mo (u / 86400)) (dOf (u / 86400)) (u % 86400 / 3600) ((u % 86400 - u % 86400 / 3600 * 3600) / 60) (u % 86400 - u % 86400 / 3600 * 3600 - (u % 86400 - u % 86400 / 3600 * 3600) / 60 * 60)).val, .bool true]) (by simp [results, Tryd.results21, go_sem, hc, hz]) rfl ⟨rfl, by refine Below.alloc ?_ (by simp; omega) _; (repeat (with_reducible refine Below.setCell ?_ (by simp) _)); exact (((Below.refl _ _).alloc (Nat.le_refl _) _).trans (hb'.mono (by simp)))⟩
    · obtain ⟨e1, e2⟩ := ofSec_no u (.inr (by omega))
      rw [e1, e2]; clear e1 e2
      have hd1 : 2932897 ≤ u / 86400 := by omega
      go_enter Tryd.func21, Tryd.ntmps21
      go_wp2_with (go_at_call 35; refine (refDate_far (u / 86400) _ hd1 (by omega)).mono ?_; rintro e w' ⟨rfl, hb'⟩; obtain ⟨hc, hf⟩ := bcell hb'; have hz : w.heap.size < w'.heap.size := (by have := hb'.size; simp at this; omega))
      exact bodyPost_ret (v := .tuple #[Lab.zero.val, .bool false]) (by simp [results, Tryd.results21, go_sem, Lab.zero, hc, hz]) rfl ⟨rfl, by refine Below.alloc ?_ (by simp; omega) _; (repeat (with_reducible refine Below.setCell ?_ (by simp) _)); exact (((Below.refl _ _).alloc (Nat.le_refl _) _).trans (hb'.mono (by simp)))⟩

set_option maxHeartbeats 1000000 in
theorem sixtieth_t (n : Int) (w : World) (hb : n ≤ 9000000000000000) :
    Calls Tryd.prog 18 #[.int .i64 n] w fun e w' => e = .returned (.tuple #[(sixty n).val, .bool (okDay n)]) ∧ Below w.heap.size w w' := by
  by_cases h : 0 ≤ n ∧ n < 2932897
  · obtain ⟨e1, e2⟩ := sixty_yes n h.1 h.2
    rw [e1, e2]; clear e1 e2
    go_enter Tryd.func18, Tryd.ntmps18
    go_wp2_with (go_at_call 34; refine (date_yes n _ h.1 h.2).mono ?_; rintro e w' ⟨rfl, hb'⟩; obtain ⟨hc, hf⟩ := bcell hb'; have hz : w.heap.size < w'.heap.size := (by have := hb'.size; simp at this; omega))
    exact bodyPost_ret (v := .tuple #[(Lab.mk (yOf n) (mo n) (dOf n) 23 59 60).val, .bool true]) (by simp [results, Tryd.results18, go_sem, hc, hz]) rfl ⟨rfl, by (repeat (with_reducible refine Below.setCell ?_ (by simp) _)); exact (((Below.refl _ _).alloc (Nat.le_refl _) _).trans (hb'.mono (by simp)))⟩
  · obtain ⟨e1, e2⟩ := sixty_no n (by omega)
    rw [e1, e2]; clear e1 e2
    go_enter Tryd.func18, Tryd.ntmps18
    go_wp2_with (go_at_call 34; refine (date_no n _ (by omega) hb).mono ?_; rintro e w' ⟨rfl, rfl⟩)
    exact bodyPost_ret (v := .tuple #[Lab.zero.val, .bool false]) (by simp [results, Tryd.results18, go_sem, Lab.zero]) rfl ⟨rfl, (Below.refl _ _).alloc (Nat.le_refl _) _⟩

set_option maxHeartbeats 1000000 in
theorem refSixtieth_t (n : Int) (w : World) (hb : n ≤ 9000000000000000) :
    Calls Tryd.prog 20 #[.int .i64 n] w fun e w' => e = .returned (.tuple #[(sixty n).val, .bool (okDay n)]) ∧ Below w.heap.size w w' := by
  by_cases h : 0 ≤ n ∧ n < 2932897
  · obtain ⟨e1, e2⟩ := sixty_yes n h.1 h.2
    rw [e1, e2]; clear e1 e2
    go_enter Tryd.func20, Tryd.ntmps20
    go_wp2_with (go_at_call 35; refine (refDate_yes n _ h.1 h.2).mono ?_; rintro e w' ⟨rfl, hb'⟩; obtain ⟨hc, hf⟩ := bcell hb'; have hz : w.heap.size < w'.heap.size := (by have := hb'.size; simp at this; omega))
    exact bodyPost_ret (v := .tuple #[(Lab.mk (yOf n) (mo n) (dOf n) 23 59 60).val, .bool true]) (by simp [results, Tryd.results20, go_sem, hc, hz]) rfl ⟨rfl, by refine Below.alloc ?_ (by simp; omega) _; (repeat (with_reducible refine Below.setCell ?_ (by simp) _)); exact (((Below.refl _ _).alloc (Nat.le_refl _) _).trans (hb'.mono (by simp)))⟩
  · obtain ⟨e1, e2⟩ := sixty_no n (by omega)
    rw [e1, e2]; clear e1 e2
    go_enter Tryd.func20, Tryd.ntmps20
    go_wp2_with (go_at_call 35; refine (refDate_no n _ (by omega) hb).mono ?_; rintro e w' ⟨rfl, hb'⟩; obtain ⟨hc, hf⟩ := bcell hb'; have hz : w.heap.size < w'.heap.size := (by have := hb'.size; simp at this; omega))
    exact bodyPost_ret (v := .tuple #[Lab.zero.val, .bool false]) (by simp [results, Tryd.results20, go_sem, Lab.zero, hc, hz]) rfl ⟨rfl, by refine Below.alloc ?_ (by simp; omega) _; (repeat (with_reducible refine Below.setCell ?_ (by simp) _)); exact (((Below.refl _ _).alloc (Nat.le_refl _) _).trans (hb'.mono (by simp)))⟩

end Go.Proofs.YtmjmoihggojpiaaDoor
