/- The walks of foreign.New, Len, Clear, Drop, Last. -/
import Derived.Test.YtmjmoihggojpiaaForTab
set_option linter.unusedSimpArgs false
set_option linter.unusedVariables false
namespace Go.Proofs.Ytmjmoihggojpiaa
open Go Go.Maps Go.RowKit Go.Shelf Go.Sort Go.Lib

theorem len8 {l : List Int} (h : l.length = 8) : ∃ a b c d e f g i, l = [a, b, c, d, e, f, g, i] := by
  match l, h with
  | [a, b, c, d, e, f, g, i], _ => exact ⟨a, b, c, d, e, f, g, i, rfl⟩

set_option maxHeartbeats 1000000 in
theorem new_bad (own : List Int) (hl : own.length = 8) (every : Int) (h : every < 1 ∨ 1099511627776 < every) (w : World) :
    Calls Try.prog 9 #[.agg (encC own).toArray, .int .i64 every] w fun r w' => r = .returned (.tuple #[.pointer none, .int .i64 1]) ∧ Below w.heap.size w w' := by
  obtain ⟨a, b, c, d, e, f, g, i, rfl⟩ := len8 hl
  have hB := (Below.refl w.heap.size w).alloc (Nat.le_refl _) (.cells (encC [a, b, c, d, e, f, g, i]).toArray 23)
  simp only [encC, List.map_cons, List.map_nil] at hB ⊢
  by_cases h1 : every < 1
  · have z1 : decide (every < 1) = true := decide_eq_true h1
    clear h h1
    go_enter Try.func9, Try.ntmps9
    go_wp2_with fail
    go_ret2
    exact ⟨rfl, hB⟩
  · have z1 : decide (every < 1) = false := decide_eq_false h1
    have z2 : decide (1099511627776 < every) = true := decide_eq_true (by omega)
    clear h h1
    go_enter Try.func9, Try.ntmps9
    go_wp2_with fail
    go_ret2
    exact ⟨rfl, hB⟩

set_option maxHeartbeats 1000000 in
theorem new_t (own : List Int) (hl : own.length = 8) (hby : ∀ x ∈ own, 0 ≤ x ∧ x < 256) (every : Int) (h1 : 1 ≤ every) (h2 : every ≤ 1099511627776) (w : World) :
    Calls Try.prog 9 #[.agg (encC own).toArray, .int .i64 every] w fun r w' => ∃ T mb, r = .returned (.tuple #[.pointer (some ⟨T, 0, none⟩), .int .i64 0]) ∧ TabAt w.heap.size w' T own (4 * every) mb [] ∧ Below w.heap.size w w' := by
  have hl' := hl
  obtain ⟨a, b, c, d, e, f, g, i, rfl⟩ := len8 hl
  obtain ⟨W, hW⟩ : ∃ W, W = ((w.alloc (.cells (encC [a, b, c, d, e, f, g, i]).toArray 23)).alloc (.map #[] 0)).alloc (.cells (encC [a, b, c, d, e, f, g, i] ++ [Value.int .i64 (4 * every), Value.map (some (w.heap.size + 1))]).toArray 63) := ⟨_, rfl⟩
  have hB : Below w.heap.size w W := by rw [hW]; exact (((Below.refl w.heap.size w).alloc (Nat.le_refl _) _).alloc (by simp) _).alloc (by simp; omega) _
  have hT : TabAt w.heap.size W (w.heap.size + 1 + 1) [a, b, c, d, e, f, g, i] (4 * every) (w.heap.size + 1) [] := by
    refine ⟨?_, rfl, ?_, by simp, List.Pairwise.nil, by simp, ?_, by simp, by simp, by simp, by omega, hby⟩
    · rw [hW]
      have := Blk.new ((w.alloc (.cells (encC [a, b, c, d, e, f, g, i]).toArray 23)).alloc (.map #[] 0)) 63 (encC [a, b, c, d, e, f, g, i] ++ [Value.int .i64 (4 * every), Value.map (some (w.heap.size + 1))])
      simpa using this
    · have h := MapIs.made (w.alloc (.cells (encC [a, b, c, d, e, f, g, i]).toArray 23))
      rw [World.size_alloc] at h
      rw [hW]
      exact h.below ((Below.refl _ _).alloc (Nat.le_refl _) _) (by simp)
    · intro k hk; simp at hk; omega
  have HT := Lib.hid (show TabAt w.heap.size W (w.heap.size + 1 + 1) [a, b, c, d, e, f, g, i] (4 * every) (w.heap.size + 1) [] ∧ Below w.heap.size w W from ⟨hT, hB⟩)
  have wr : IntKind.i64.wrap (4 * every) = 4 * every := wrap_in (by omega) (by omega)
  have z1 : decide (every < 1) = false := decide_eq_false (by omega)
  have z2 : decide (1099511627776 < every) = false := decide_eq_false (by omega)
  simp only [encC, List.map_cons, List.map_nil, List.cons_append, List.nil_append] at hW ⊢
  have HW := Lib.hid hW
  clear hW hT hB h1 h2 hby
  have mk : ∀ v : World, (Instr.makeMap 61 none).run Try.prog v = .ok (.map (some v.heap.size)) (v.alloc (.map #[] 0)) := fun v => rfl
  go_enter Try.func9, Try.ntmps9
  go_wp2_with fail
  go_ret2
  rw [← HW.out]
  exact ⟨_, _, rfl, HT.out.1, HT.out.2⟩

theorem len_t {base : Nat} {w : World} {T : Nat} {own : List Int} {win : Int} {mb : Nat} {l : List (En × Nat)} (h : TabAt base w T own win mb l) :
    Calls Try.prog 13 #[.pointer (some ⟨T, 0, none⟩)] w fun r w' => r = .returned (.int .i64 l.length) ∧ w = w' := by
  have hlen := h.map.len 3
  rw [List.length_map] at hlen
  have c9 := h.cmap
  clear h
  go_enter Try.func13, Try.ntmps13
  go_wp2_with fail
  go_ret
  exact ⟨rfl, rfl⟩

theorem clear_t {base : Nat} {w : World} {T : Nat} {own : List Int} {win : Int} {mb : Nat} {l : List (En × Nat)} (h : TabAt base w T own win mb l) :
    Calls Try.prog 26 #[.pointer (some ⟨T, 0, none⟩)] w fun r w' => r = .returned (.tuple #[]) ∧ TabAt base w' T own win mb [] ∧ But [mb] w w' := by
  obtain ⟨V, hrun, hM, hg, hs⟩ := h.map.clear 0
  have hT : TabAt base V T own win mb [] := by
    have hap := h.apart
    simp only [List.nodup_cons, List.mem_cons, not_or] at hap
    refine ⟨?_, h.len, hM, by simp, List.Pairwise.nil, by simp [hap.1.1], fun k hk => h.from_ k (by simp at hk ⊢; omega), by simp, by simp, by simp, h.win_, h.bytes⟩
    exact (hg.block T h.tab.lt (fun e => hap.1.1 (by cases e; rfl))).trans h.tab
  have hb : But [mb] w V := .of_grown hg (by simp)
  have H := Lib.hid (show TabAt base V T own win mb [] ∧ But [mb] w V from ⟨hT, hb⟩)
  have c9 := h.cmap
  clear h hM hg hs hT hb
  go_enter Try.func26, Try.ntmps26
  go_wp2_with fail
  go_end0
  exact ⟨rfl, H.out.1, H.out.2⟩
end Go.Proofs.Ytmjmoihggojpiaa
