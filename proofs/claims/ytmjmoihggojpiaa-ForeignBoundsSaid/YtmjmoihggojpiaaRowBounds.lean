/- ForeignBounds: the row. -/
import Derived.Test.YtmjmoihggojpiaaRows
import Derived.Test.YtmjmoihggojpiaaRowKit
import Derived.Test.YtmjmoihggojpiaaForTrod
import Derived.Test.YtmjmoihggojpiaaForBounds
import Derived.ProofKit
import Derived.LaidMore
import Derived.OpenShut
set_option linter.unusedSimpArgs false
set_option linter.unusedVariables false
namespace Go.Proofs.Ytmjmoihggojpiaa
open Go.ChangeShapes Go.WideShapes Go.ChangeAt Go.WideMaps Go.WideElems Go.RowKit

theorem ownKn : ownKnob Try.prog.godebug = none := by kernel_rfl

theorem agg_of {v : Value} {l : List Value} (hl : 2 ≤ l.length) (h : v.cells.toList = l) : v = .agg l.toArray := by
  cases v with
  | agg cs =>
    have : cs.toList = l := h
    rw [← this]
  | _ => exfalso; rw [← h] at hl; simp [Value.cells] at hl

set_option maxRecDepth 100000 in
theorem liftedBounds (os : Os) (started : os.Started) (H : Type) (enc : TypeId × Value → H) :
    ReturnsInHanded {} Try.checked os 5 .any (Rows.foreignBoundsSpec.pre6 enc Try.prog Try.f5 [] false)
      (Rows.foreignBoundsSpec.post enc Try.prog Try.f5 false true false false) := by
  refine returnsInHanded_of_change (C := Try.checked) ownKn started (by kernel_rfl) Try.func5
    (ChangeSpec.witness6 (enc := enc) (C := Try.checked) false ⟨#[], #[.agg #[.int .u8 0, .int .u8 0, .int .u8 0, .int .u8 0, .int .u8 0, .int .u8 0, .int .u8 0, .int .u8 0, .int .i64 0], .slice none 0 0], []⟩ 8 (by kernel_rfl) (by kernel_rfl) (by kernel_rfl) (by kernel_rfl)) ?_
  intro W base args ds gs before hval0 hW _ _
  have hval : ∀ (j : Nat) t v, Try.f5.params[j]? = some t → args[j]? = some v → Value.okWide Try.prog W .any base t v := hval0
  have hW' := hW
  obtain ⟨p, q, hA0, hV, rfl, hfz, hnd⟩ := hW
  have hA : DataW.TrodAll enc Try.prog W 0 (fun _ => true) true Try.f5.params.toList args.toList ds p := hA0
  rw [Try.params5] at hA hval
  obtain ⟨v0, v1, d0, d1, p0, p1, rfl, rfl, rfl, h0, h1⟩ := trodAll_two hA
  obtain ⟨rfl, rfl⟩ := trodVars_none hV
  obtain ⟨fu0, t0⟩ := h0
  obtain ⟨own, every, l8, lb, lv, e0⟩ := trod_seat t0
  have ev0 : v0 = .agg (encC own ++ [Value.int .i64 every]).toArray := by
    obtain ⟨o0, o1, o2, o3, o4, o5, o6, o7, rfl⟩ := len8 l8
    exact agg_of (by simp [encC]) e0
  obtain ⟨ad, dl, dc, rfl⟩ := okWide_slice Try.underlying43 (hval 1 _ v1 rfl rfl)
  obtain ⟨fu1, t1⟩ := h1
  obtain ⟨v, os, e1, hok, hos⟩ := trod_script t1
  have ev1 : v = .slice ad dl dc := by simpa [Value.cells] using e1.symm
  subst ev1
  subst ev0
  refine (bounds_t own l8 lb every os hok W _ hos).mono fun e W' ⟨he, hb⟩ => ?_
  subst he
  exact ⟨_, rfl, law_post laidOut Try.underlying4 rfl (by kernel_rfl) rfl rfl hW' hb⟩

theorem foreignBounds_holds : Rows.ForeignBoundsSaid :=
  OpenClaim.holds_of_wide 5 Try.f5 rfl rfl rfl rfl rfl rfl rfl ⟨rfl, rfl, rfl, rfl, rfl⟩ rfl rfl rfl rfl rfl (by kernel_rfl) Try.func5 (by kernel_rfl)
    (of_decide_eq_true (by kernel_rfl)) (by unfold Func.isWrapper; first | (rw [if_pos (by decide +kernel)]; kernel_rfl) | (rw [if_neg (by decide +kernel)]; exact ⟨rfl, rfl⟩))
    (fun os started H enc _ => liftedBounds os started H enc)
end Go.Proofs.Ytmjmoihggojpiaa
