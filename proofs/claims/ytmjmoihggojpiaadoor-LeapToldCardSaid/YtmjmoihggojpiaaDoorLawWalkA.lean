/- The walk of the law's 'alive' and 'far'. -/
import Derived.Test.YtmjmoihggojpiaaDoorNewWalkB
import Derived.Test.YtmjmoihggojpiaaDoorNoteWalk
set_option linter.unusedSimpArgs false
set_option linter.unusedVariables false
namespace Go.Proofs.YtmjmoihggojpiaaDoor
open Go.RowKit Civ
attribute [local go_sem] isSome_setCell

theorem far_t (t : Int) (w : World) :
    Calls Tryd.prog 5 #[.int .i64 t] w fun e w' => e = .returned (.bool (decide (t < -1125899906842624) || decide (1125899906842624 < t))) ∧ w = w' := by
  by_cases h : t < -1125899906842624
  · have h1 : decide (t < -1125899906842624) = true := by simpa using h
    go_enter Tryd.func5, Tryd.ntmps5
    go_wp2_with fail
    go_ret
    simp [h1]
  · have h1 : decide (t < -1125899906842624) = false := by simpa using h
    go_enter Tryd.func5, Tryd.ntmps5
    go_wp2_with fail
    go_ret
    simp [h1]

def aL : List (Int × Int) := [(17166, 1)]
theorem aLab1 : labOut 1483228836 36 aL = (⟨2016, 12, 31, 23, 59, 60⟩, true) := by kernel_rfl
theorem aLab2 : labOut 1483228837 36 aL = (⟨2017, 1, 1, 0, 0, 0⟩, true) := by kernel_rfl
theorem aOff1 : offAt 1483228836 36 aL = 36 := by kernel_rfl
theorem aOff2 : offAt 1483228837 36 aL = 37 := by kernel_rfl
theorem aNum : num 2016 12 31 = 17166 := by kernel_rfl
theorem aAny : anyLeap (lateOf ⟨2016, 12, 31, 23, 59, 60⟩) 17166 true aL = true := by kernel_rfl
theorem aOk : TabOk 36 aL := ⟨fun j => by
    rcases j with _ | _ | j
    · decide
    · decide
    · simp [aL, offs], fun j => by
    rcases j with _ | j
    · decide
    · simp [aL]⟩
theorem new_a (w : World) (lb : Nat) (d1 : w.cell? ⟨lb, 0, none⟩ = some (.int .i64 17166)) (d2 : w.cell? ⟨lb, 1, none⟩ = some (.int .i64 1)) :
    Calls Tryd.prog 15 #[.int .i64 36, .slice (some ⟨lb, 0, none⟩) 1 1] w fun e w' => ∃ tb, e = .returned (.tuple #[.pointer (some ⟨tb, 0, none⟩), .int .i64 0]) ∧ TabAt w' tb aL 36 ∧ Below w.heap.size w w' := by
  refine (new_t 36 aL (some ⟨lb, 0, none⟩) lb 1 w (by omega) (by omega) (by decide) rfl (fun j hj => ?_) (fun j hj => ?_)).mono ?_
  · obtain rfl : j = 0 := by simp [aL] at hj; exact hj
    exact d1
  · obtain rfl : j = 0 := by simp [aL] at hj; exact hj
    exact d2
  · rintro e w' (⟨_, tb, h⟩ | ⟨⟨k, hk, h⟩, _⟩)
    · exact ⟨tb, h⟩
    · obtain rfl : k = 0 := by simp [aL] at hk; exact hk
      exact absurd h (by decide)

theorem label_1 (w : World) (tb : Nat) (h : TabAt w tb aL 36) : Calls Tryd.prog 12 #[.pointer (some ⟨tb, 0, none⟩), .int .i64 1483228836] w fun e w' =>
    e = .returned (.tuple #[.agg #[.int .i64 2016, .int .i64 12, .int .i64 31, .int .i64 23, .int .i64 59, .int .i64 60], .bool true]) ∧ Below w.heap.size w w' := by
  refine (label_t 1483228836 36 aL tb _ h aOk (by omega) (by omega)).mono ?_
  rintro e w2 ⟨rfl, hb2⟩
  rw [aLab1]; exact ⟨rfl, hb2⟩
theorem label_2 (w : World) (tb : Nat) (h : TabAt w tb aL 36) : Calls Tryd.prog 12 #[.pointer (some ⟨tb, 0, none⟩), .int .i64 1483228837] w fun e w' =>
    e = .returned (.tuple #[.agg #[.int .i64 2017, .int .i64 1, .int .i64 1, .int .i64 0, .int .i64 0, .int .i64 0], .bool true]) ∧ Below w.heap.size w w' := by
  refine (label_t 1483228837 36 aL tb _ h aOk (by omega) (by omega)).mono ?_
  rintro e w2 ⟨rfl, hb2⟩
  rw [aLab2]; exact ⟨rfl, hb2⟩
theorem offset_1 (w : World) (tb : Nat) (h : TabAt w tb aL 36) : Calls Tryd.prog 17 #[.pointer (some ⟨tb, 0, none⟩), .int .i64 1483228836] w fun e w' => e = .returned (.int .i64 36) ∧ Below w.heap.size w w' := by
  refine (offset_t 1483228836 36 aL tb _ h).mono ?_
  rintro e w2 ⟨rfl, hb2⟩
  rw [aOff1]; exact ⟨rfl, hb2⟩
theorem offset_2 (w : World) (tb : Nat) (h : TabAt w tb aL 36) : Calls Tryd.prog 17 #[.pointer (some ⟨tb, 0, none⟩), .int .i64 1483228837] w fun e w' => e = .returned (.int .i64 37) ∧ Below w.heap.size w w' := by
  refine (offset_t 1483228837 36 aL tb _ h).mono ?_
  rintro e w2 ⟨rfl, hb2⟩
  rw [aOff2]; exact ⟨rfl, hb2⟩
theorem note_1 (w : World) (tb : Nat) (h : TabAt w tb aL 36) : Calls Tryd.prog 13 #[.pointer (some ⟨tb, 0, none⟩), .int .i64 1483228836] w fun e w' => ∃ o b v, e = .returned (.agg #[.int .i64 o, .bool true, .bool b, .bool v]) ∧ Below w.heap.size w w' := by
  refine (note_t 1483228836 36 aL tb _ h aOk (by omega) (by omega) ⟨2016, 12, 31, 23, 59, 60⟩ 17166 aLab1 (fun W => ?_) (by decide)).mono ?_
  · refine (day_t 2016 12 31 W (by omega) (by omega) (by omega) (by omega) (by omega) (by decide)).mono ?_
    rintro e w2 ⟨rfl, hb2⟩
    rw [aNum]; exact ⟨rfl, hb2⟩
  · rintro e w2 ⟨rfl, hb2⟩
    rw [aAny]; exact ⟨_, _, _, rfl, hb2⟩

set_option maxRecDepth 100000 in
set_option maxHeartbeats 4000000 in
theorem alive_t (w : World) (ht : Tab w) : Calls Tryd.prog 6 #[] w fun e w' => e = .returned (.bool true) ∧ Below w.heap.size w w' := by
  have HT := Lib.hid ht
  clear ht
  go_enter Tryd.func6, Tryd.ntmps6
  go_wp2_with fail
  refine (new_a _ w.heap.size (by go_simp) (by go_simp)).mono ?_
  rintro e w1 ⟨tb, rfl, h1, hb1⟩
  have HB1 : Hid (Below w.heap.size w w1) := ((Below.refl _ _).alloc (Nat.le_refl _) _).trans (hb1.mono (by simp))
  have hz1 : w.heap.size ≤ w1.heap.size := HB1.out.size
  have H1 := Lib.hid h1
  clear h1 hb1
  go_wp2_with fail
  refine (label_1 _ tb H1.out).mono ?_
  rintro e w2 ⟨rfl, hb2⟩
  have H2 := Lib.hid (H1.out.below hb2)
  have HB2 : Hid (Below w.heap.size w w2) := HB1.out.trans (hb2.mono hz1)
  have hz2 : w.heap.size ≤ w2.heap.size := HB2.out.size
  clear hb2
  go_wp2_with fail
  refine (label_2 _ tb (H2.out.below ((Below.refl _ _).alloc (Nat.le_refl _) _))).mono ?_
  rintro e w3 ⟨rfl, hb3⟩
  have HB3 : Hid (Below w.heap.size w w3) := (HB2.out.alloc hz2 _).trans (hb3.mono (by simp; omega))
  have H3 := Lib.hid ((H2.out.below ((Below.refl _ _).alloc (Nat.le_refl _) _)).below hb3)
  obtain ⟨hc3, hf3⟩ := bone hb3 w2.heap.size (by simp)
  have hz3 : w2.heap.size < w3.heap.size := by have := hb3.size; simp at this; omega
  clear hb3
  go_wp2_with fail
  refine (text_a _ ((HT.out.below HB3.out).below ((Below.refl _ _).alloc (Nat.le_refl _) _))).mono ?_
  rintro e w4 ⟨rfl, hb4⟩
  have HB4 : Hid (Below w.heap.size w w4) := (HB3.out.alloc (by omega) _).trans (hb4.mono (by simp; omega))
  have H4 := Lib.hid ((H3.out.below ((Below.refl _ _).alloc (Nat.le_refl _) _)).below hb4)
  obtain ⟨hc4, hf4⟩ := bone hb4 w3.heap.size (by simp)
  have hz4 : w3.heap.size < w4.heap.size := by have := hb4.size; simp at this; omega
  clear hb4
  go_wp2_with fail
  refine (text_b _ (HT.out.below HB4.out)).mono ?_
  rintro e w5 ⟨rfl, hb5⟩
  have HB5 : Hid (Below w.heap.size w w5) := HB4.out.trans (hb5.mono (by omega))
  have H5 := Lib.hid (H4.out.below hb5)
  have hz5 : w4.heap.size ≤ w5.heap.size := hb5.size
  clear hb5
  go_wp2_with fail
  refine (offset_1 _ tb H5.out).mono ?_
  rintro e w6 ⟨rfl, hb6⟩
  have HB6 : Hid (Below w.heap.size w w6) := HB5.out.trans (hb6.mono (by omega))
  have H6 := Lib.hid (H5.out.below hb6)
  have hz6 : w5.heap.size ≤ w6.heap.size := hb6.size
  clear hb6
  go_wp2_with fail
  refine (offset_2 _ tb H6.out).mono ?_
  rintro e w7 ⟨rfl, hb7⟩
  have HB7 : Hid (Below w.heap.size w w7) := HB6.out.trans (hb7.mono (by omega))
  have H7 := Lib.hid (H6.out.below hb7)
  have hz7 : w6.heap.size ≤ w7.heap.size := hb7.size
  clear hb7
  go_wp2_with fail
  refine (note_1 _ tb H7.out).mono ?_
  rintro e w8 ⟨o, b, v, rfl, hb8⟩
  have HB8 : Hid (Below w.heap.size w w8) := HB7.out.trans (hb8.mono (by omega))
  clear hb8
  have hfl : ∀ W : World, Sem.run Tryd.prog (Instr.field 32 (Value.agg #[.int .i64 o, .bool true, .bool b, .bool v]) 1) W = .ok (.bool true) W := fun W => by kernel_rfl
  go_wp2_with fail
  go_ret
  exact ⟨rfl, HB8.out⟩
end Go.Proofs.YtmjmoihggojpiaaDoor
