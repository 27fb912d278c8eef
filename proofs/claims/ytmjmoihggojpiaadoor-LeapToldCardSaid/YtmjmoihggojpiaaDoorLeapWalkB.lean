/- The walk of the reference's By. -/
import Derived.Test.YtmjmoihggojpiaaDoorCivWalkD
import Derived.Test.YtmjmoihggojpiaaDoorLeapPlain
set_option linter.unusedSimpArgs false
set_option linter.unusedVariables false
namespace Go.Proofs.YtmjmoihggojpiaaDoor
open Go.RowKit Civ

theorem refBy_none (off : Int) (a b : Bool) (tai : Int) (w : World) (ho1 : -2000000000000000 ≤ off) (ho2 : off ≤ 2000000000000000) (ht1 : -2000000000000000 ≤ tai) (ht2 : tai ≤ 2000000000000000) :
    Calls Tryd.prog 8 #[.agg #[.int .i64 off, .bool a, .bool b, .bool false], .int .i64 tai] w fun e w' => e = .returned (.tuple #[Lab.zero.val, .bool false]) ∧ Below w.heap.size w w' := by
  go_enter Tryd.func8, Tryd.ntmps8
  go_wp2_with fail
  all_goals (exact bodyPost_ret (v := .tuple #[Lab.zero.val, .bool false]) (by simp [results, Tryd.results8, go_sem, Lab.zero]) rfl ⟨rfl, ((Below.refl _ _).alloc (Nat.le_refl _) _).alloc (by simp) _⟩)

theorem refBy_both (off : Int) (tai : Int) (w : World) (ho1 : -2000000000000000 ≤ off) (ho2 : off ≤ 2000000000000000) (ht1 : -2000000000000000 ≤ tai) (ht2 : tai ≤ 2000000000000000) :
    Calls Tryd.prog 8 #[.agg #[.int .i64 off, .bool true, .bool true, .bool true], .int .i64 tai] w fun e w' => e = .returned (.tuple #[Lab.zero.val, .bool false]) ∧ Below w.heap.size w w' := by
  go_enter Tryd.func8, Tryd.ntmps8
  go_wp2_with fail
  all_goals (exact bodyPost_ret (v := .tuple #[Lab.zero.val, .bool false]) (by simp [results, Tryd.results8, go_sem, Lab.zero]) rfl ⟨rfl, ((Below.refl _ _).alloc (Nat.le_refl _) _).alloc (by simp) _⟩)

set_option maxHeartbeats 4000000 in
theorem refBy_bad (off : Int) (a b : Bool) (tai : Int) (w : World) (ho1 : -2000000000000000 ≤ off) (ho2 : off ≤ 2000000000000000) (ht1 : -2000000000000000 ≤ tai) (ht2 : tai ≤ 2000000000000000) (hab : (a && b) = false)
    (h : off < -32768 ∨ 32768 ≤ off ∨ (-32768 ≤ off ∧ off < 32768 ∧ tai < 0) ∨ (-32768 ≤ off ∧ off < 32768 ∧ 1099511627776 < tai)) :
    Calls Tryd.prog 8 #[.agg #[.int .i64 off, .bool a, .bool b, .bool true], .int .i64 tai] w fun e w' => e = .returned (.tuple #[Lab.zero.val, .bool false]) ∧ Below w.heap.size w w' := by
  cases a <;> cases b <;> first | (exact absurd hab (by decide)) | skip
  all_goals
    clear hab
    rcases h with h | h | ⟨h1, h2, h⟩ | ⟨h1, h2, h⟩
  all_goals
    go_enter Tryd.func8, Tryd.ntmps8
    go_wp2_with fail
  all_goals (exact bodyPost_ret (v := .tuple #[Lab.zero.val, .bool false]) (by simp [results, Tryd.results8, go_sem, Lab.zero]) rfl ⟨rfl, ((Below.refl _ _).alloc (Nat.le_refl _) _).alloc (by simp) _⟩)

theorem refBy_61 (off : Int) (tai : Int) (w : World) (h1 : -32768 ≤ off) (h2 : off < 32768) (h3 : 0 ≤ tai) (h4 : tai ≤ 1099511627776) (hu : 0 < tai - off) (hd : (tai - off) % 86400 = 0) :
    Calls Tryd.prog 8 #[.agg #[.int .i64 off, .bool true, .bool false, .bool true], .int .i64 tai] w fun e w' => e = .returned (.tuple #[(sixty ((tai - off) / 86400 - 1)).val, .bool (okDay ((tai - off) / 86400 - 1))]) ∧ Below w.heap.size w w' := by
  have hd' : (tai - off) / 86400 * 86400 = tai - off := by omega
  have HD := Lib.hid hd; clear hd
  have T : ((tai - off) / 86400 * 86400 == tai - off) = true := by rw [beq_iff_eq]; exact hd'
  clear hd'
  go_enter Tryd.func8, Tryd.ntmps8
  go_wp2_with (go_at_call 20; refine (refSixtieth_t ((tai - off) / 86400 - 1) _ (by omega)).mono ?_; rintro e w' ⟨rfl, hb'⟩; obtain ⟨hc, hf⟩ := bcell hb'; have hz : w.heap.size + 1 < w'.heap.size := (by have := hb'.size; simp at this; omega))
  exact bodyPost_ret (v := .tuple #[(sixty ((tai - off) / 86400 - 1)).val, .bool (okDay ((tai - off) / 86400 - 1))]) (by simp [results, Tryd.results8, go_sem, hc, hz]) rfl ⟨rfl, by (repeat (with_reducible refine Below.setCell ?_ (by simp) _)); exact ((((Below.refl _ _).alloc (Nat.le_refl _) _).alloc (by simp) _).trans (hb'.mono (by simp; omega)))⟩

theorem refBy_61low (off : Int) (tai : Int) (w : World) (h1 : -32768 ≤ off) (h2 : off < 32768) (h3 : 0 ≤ tai) (h4 : tai ≤ 1099511627776) (hu : tai - off ≤ 0) :
    Calls Tryd.prog 8 #[.agg #[.int .i64 off, .bool true, .bool false, .bool true], .int .i64 tai] w fun e w' => e = .returned (.tuple #[(ofSec (tai - off)).val, .bool (okSec (tai - off))]) ∧ Below w.heap.size w w' := by
  go_enter Tryd.func8, Tryd.ntmps8
  go_wp2_with (go_at_call 21; refine (refOf_t (tai - off) _ (by omega)).mono ?_; rintro e w' ⟨rfl, hb'⟩; obtain ⟨hc, hf⟩ := bcell hb'; have hz : w.heap.size + 1 < w'.heap.size := (by have := hb'.size; simp at this; omega))
  exact bodyPost_ret (v := .tuple #[(ofSec (tai - off)).val, .bool (okSec (tai - off))]) (by simp [results, Tryd.results8, go_sem, hc, hz]) rfl ⟨rfl, by (repeat (with_reducible refine Below.setCell ?_ (by simp) _)); exact ((((Below.refl _ _).alloc (Nat.le_refl _) _).alloc (by simp) _).trans (hb'.mono (by simp; omega)))⟩

theorem refBy_61not (off : Int) (tai : Int) (w : World) (h1 : -32768 ≤ off) (h2 : off < 32768) (h3 : 0 ≤ tai) (h4 : tai ≤ 1099511627776) (hu : 0 < tai - off) (hd : ¬ (tai - off) % 86400 = 0) :
    Calls Tryd.prog 8 #[.agg #[.int .i64 off, .bool true, .bool false, .bool true], .int .i64 tai] w fun e w' => e = .returned (.tuple #[(ofSec (tai - off)).val, .bool (okSec (tai - off))]) ∧ Below w.heap.size w w' := by
  have T : ((tai - off) / 86400 * 86400 == tai - off) = false := by rw [beq_eq_false_iff_ne]; omega
  clear hd
  go_enter Tryd.func8, Tryd.ntmps8
  go_wp2_with (go_at_call 21; refine (refOf_t (tai - off) _ (by omega)).mono ?_; rintro e w' ⟨rfl, hb'⟩; obtain ⟨hc, hf⟩ := bcell hb'; have hz : w.heap.size + 1 < w'.heap.size := (by have := hb'.size; simp at this; omega))
  exact bodyPost_ret (v := .tuple #[(ofSec (tai - off)).val, .bool (okSec (tai - off))]) (by simp [results, Tryd.results8, go_sem, hc, hz]) rfl ⟨rfl, by (repeat (with_reducible refine Below.setCell ?_ (by simp) _)); exact ((((Below.refl _ _).alloc (Nat.le_refl _) _).alloc (by simp) _).trans (hb'.mono (by simp; omega)))⟩

theorem refBy_59 (off : Int) (tai : Int) (w : World) (h1 : -32768 ≤ off) (h2 : off < 32768) (h3 : 0 ≤ tai) (h4 : tai ≤ 1099511627776) (hu : 0 ≤ tai - off) (hd : (tai - off + 1) % 86400 = 0) :
    Calls Tryd.prog 8 #[.agg #[.int .i64 off, .bool false, .bool true, .bool true], .int .i64 tai] w fun e w' => e = .returned (.tuple #[(ofSec (tai - off + 1)).val, .bool (okSec (tai - off + 1))]) ∧ Below w.heap.size w w' := by
  have T : ((tai - off + 1) / 86400 * 86400 == tai - off + 1) = true := by rw [beq_iff_eq]; omega
  clear hd
  go_enter Tryd.func8, Tryd.ntmps8
  go_wp2_with (go_at_call 21; refine (refOf_t (tai - off + 1) _ (by omega)).mono ?_; rintro e w' ⟨rfl, hb'⟩; obtain ⟨hc, hf⟩ := bcell hb'; have hz : w.heap.size + 1 < w'.heap.size := (by have := hb'.size; simp at this; omega))
  exact bodyPost_ret (v := .tuple #[(ofSec (tai - off + 1)).val, .bool (okSec (tai - off + 1))]) (by simp [results, Tryd.results8, go_sem, hc, hz]) rfl ⟨rfl, by (repeat (with_reducible refine Below.setCell ?_ (by simp) _)); exact ((((Below.refl _ _).alloc (Nat.le_refl _) _).alloc (by simp) _).trans (hb'.mono (by simp; omega)))⟩

theorem refBy_59not (off : Int) (tai : Int) (w : World) (h1 : -32768 ≤ off) (h2 : off < 32768) (h3 : 0 ≤ tai) (h4 : tai ≤ 1099511627776) (hu : 0 ≤ tai - off) (hd : ¬ (tai - off + 1) % 86400 = 0) :
    Calls Tryd.prog 8 #[.agg #[.int .i64 off, .bool false, .bool true, .bool true], .int .i64 tai] w fun e w' => e = .returned (.tuple #[(ofSec (tai - off)).val, .bool (okSec (tai - off))]) ∧ Below w.heap.size w w' := by
  have T : ((tai - off + 1) / 86400 * 86400 == tai - off + 1) = false := by rw [beq_eq_false_iff_ne]; omega
  clear hd
  go_enter Tryd.func8, Tryd.ntmps8
  go_wp2_with (go_at_call 21; refine (refOf_t (tai - off) _ (by omega)).mono ?_; rintro e w' ⟨rfl, hb'⟩; obtain ⟨hc, hf⟩ := bcell hb'; have hz : w.heap.size + 1 < w'.heap.size := (by have := hb'.size; simp at this; omega))
  exact bodyPost_ret (v := .tuple #[(ofSec (tai - off)).val, .bool (okSec (tai - off))]) (by simp [results, Tryd.results8, go_sem, hc, hz]) rfl ⟨rfl, by (repeat (with_reducible refine Below.setCell ?_ (by simp) _)); exact ((((Below.refl _ _).alloc (Nat.le_refl _) _).alloc (by simp) _).trans (hb'.mono (by simp; omega)))⟩

theorem refBy_59neg (off : Int) (tai : Int) (w : World) (h1 : -32768 ≤ off) (h2 : off < 32768) (h3 : 0 ≤ tai) (h4 : tai ≤ 1099511627776) (hu : tai - off < 0) (hv : ¬ tai - off = -1) :
    Calls Tryd.prog 8 #[.agg #[.int .i64 off, .bool false, .bool true, .bool true], .int .i64 tai] w fun e w' => e = .returned (.tuple #[(ofSec (tai - off)).val, .bool (okSec (tai - off))]) ∧ Below w.heap.size w w' := by
  have q0 : (tai - off + 1).tdiv 86400 = 0 := by
    have : tai - off + 1 = -(-(tai - off + 1)) := by omega
    rw [this, Int.neg_tdiv, Int.tdiv_eq_zero_of_lt (by omega) (by omega)]; rfl
  have q1 : (tai - off + 1).tmod 86400 = tai - off + 1 := by
    have := Int.mul_tdiv_add_tmod (tai - off + 1) 86400
    rw [q0] at this; omega
  have T : ((tai - off + 1).tdiv 86400 * 86400 == tai - off + 1) = false := by rw [beq_eq_false_iff_ne, q0]; omega
  clear q1
  
  go_enter Tryd.func8, Tryd.ntmps8
  go_wp2_with (go_at_call 21; refine (refOf_t (tai - off) _ (by omega)).mono ?_; rintro e w' ⟨rfl, hb'⟩; obtain ⟨hc, hf⟩ := bcell hb'; have hz : w.heap.size + 1 < w'.heap.size := (by have := hb'.size; simp at this; omega))
  exact bodyPost_ret (v := .tuple #[(ofSec (tai - off)).val, .bool (okSec (tai - off))]) (by simp [results, Tryd.results8, go_sem, hc, hz]) rfl ⟨rfl, by (repeat (with_reducible refine Below.setCell ?_ (by simp) _)); exact ((((Below.refl _ _).alloc (Nat.le_refl _) _).alloc (by simp) _).trans (hb'.mono (by simp; omega)))⟩

theorem refBy_59m1 (off : Int) (w : World) (h1 : -32768 ≤ off) (h2 : off < 32768) (h3 : 0 ≤ off - 1) :
    Calls Tryd.prog 8 #[.agg #[.int .i64 off, .bool false, .bool true, .bool true], .int .i64 (off - 1)] w fun e w' => e = .returned (.tuple #[(ofSec 0).val, .bool (okSec 0)]) ∧ Below w.heap.size w w' := by
  have E : off - 1 - off = -1 := by omega
  go_enter Tryd.func8, Tryd.ntmps8
  go_wp2_with (go_at_call 21; refine (refOf_t 0 _ (by omega)).mono ?_; rintro e w' ⟨rfl, hb'⟩; obtain ⟨hc, hf⟩ := bcell hb'; have hz : w.heap.size + 1 < w'.heap.size := (by have := hb'.size; simp at this; omega))
  exact bodyPost_ret (v := .tuple #[(ofSec 0).val, .bool (okSec 0)]) (by simp [results, Tryd.results8, go_sem, hc, hz]) rfl ⟨rfl, by (repeat (with_reducible refine Below.setCell ?_ (by simp) _)); exact ((((Below.refl _ _).alloc (Nat.le_refl _) _).alloc (by simp) _).trans (hb'.mono (by simp; omega)))⟩

theorem refBy_plain (off : Int) (tai : Int) (w : World) (h1 : -32768 ≤ off) (h2 : off < 32768) (h3 : 0 ≤ tai) (h4 : tai ≤ 1099511627776) :
    Calls Tryd.prog 8 #[.agg #[.int .i64 off, .bool false, .bool false, .bool true], .int .i64 tai] w fun e w' => e = .returned (.tuple #[(ofSec (tai - off)).val, .bool (okSec (tai - off))]) ∧ Below w.heap.size w w' := by
  go_enter Tryd.func8, Tryd.ntmps8
  go_wp2_with (go_at_call 21; refine (refOf_t (tai - off) _ (by omega)).mono ?_; rintro e w' ⟨rfl, hb'⟩; obtain ⟨hc, hf⟩ := bcell hb'; have hz : w.heap.size + 1 < w'.heap.size := (by have := hb'.size; simp at this; omega))
  exact bodyPost_ret (v := .tuple #[(ofSec (tai - off)).val, .bool (okSec (tai - off))]) (by simp [results, Tryd.results8, go_sem, hc, hz]) rfl ⟨rfl, by (repeat (with_reducible refine Below.setCell ?_ (by simp) _)); exact ((((Below.refl _ _).alloc (Nat.le_refl _) _).alloc (by simp) _).trans (hb'.mono (by simp; omega)))⟩

theorem refBy_t (off : Int) (a b v : Bool) (tai : Int) (w : World) (ho1 : -2000000000000000 ≤ off) (ho2 : off ≤ 2000000000000000) (ht1 : -2000000000000000 ≤ tai) (ht2 : tai ≤ 2000000000000000) :
    Calls Tryd.prog 8 #[.agg #[.int .i64 off, .bool a, .bool b, .bool v], .int .i64 tai] w fun e w' => e = .returned (.tuple #[(byOut off a b v tai).1.val, .bool (byOut off a b v tai).2]) ∧ Below w.heap.size w w' := by
  have bad : byBad off a b v tai = true → byOut off a b v tai = (Lab.zero, false) := byOut_bad _ _ _ _ _
  cases v
  · rw [bad (by simp [byBad])]; exact refBy_none off a b tai w ho1 ho2 ht1 ht2
  cases a <;> cases b
  case true.true => rw [bad (by simp [byBad])]; exact refBy_both off tai w ho1 ho2 ht1 ht2
  all_goals
    by_cases g : off < -32768 ∨ 32768 ≤ off ∨ (-32768 ≤ off ∧ off < 32768 ∧ tai < 0) ∨ (-32768 ≤ off ∧ off < 32768 ∧ 1099511627776 < tai)
    · rw [bad (by
        rcases g with g | g | ⟨_, _, g⟩ | ⟨_, _, g⟩ <;> simp [byBad, g])]
      exact refBy_bad off _ _ tai w ho1 ho2 ht1 ht2 (by rfl) g
    have h1 : -32768 ≤ off := by omega
    have h2 : off < 32768 := by omega
    have h3 : 0 ≤ tai := by omega
    have h4 : tai ≤ 1099511627776 := by omega
    clear g bad
  · rw [byOut_plain off false false tai rfl h1 h2 h3 h4 (.inl rfl) (.inl rfl)]; exact refBy_plain off tai w h1 h2 h3 h4
  · by_cases hd : (tai - off + 1) % 86400 = 0
    · rw [byOut_59 off false tai rfl h1 h2 h3 h4 hd]
      by_cases hu : 0 ≤ tai - off
      · exact refBy_59 off tai w h1 h2 h3 h4 hu hd
      · obtain rfl : tai = off - 1 := by omega
        rw [show off - 1 - off + 1 = 0 from by omega]
        exact refBy_59m1 off w h1 h2 (by omega)
    · rw [byOut_plain off false true tai rfl h1 h2 h3 h4 (.inl rfl) (.inr hd)]
      by_cases hu : 0 ≤ tai - off
      · exact refBy_59not off tai w h1 h2 h3 h4 hu hd
      · exact refBy_59neg off tai w h1 h2 h3 h4 (by omega) (by omega)
  · by_cases hu : 0 < tai - off
    · by_cases hd : (tai - off) % 86400 = 0
      · rw [byOut_61 off false tai rfl h1 h2 h3 h4 hu hd]; exact refBy_61 off tai w h1 h2 h3 h4 hu hd
      · rw [byOut_plain off true false tai rfl h1 h2 h3 h4 (.inr (by omega)) (.inl rfl)]; exact refBy_61not off tai w h1 h2 h3 h4 hu hd
    · rw [byOut_plain off true false tai rfl h1 h2 h3 h4 (.inr (by omega)) (.inl rfl)]; exact refBy_61low off tai w h1 h2 h3 h4 (by omega)

end Go.Proofs.YtmjmoihggojpiaaDoor
