/- For every note, every time and every span: what a clock says of the time, by what was said, and of the span, is what the document says (the program and the reference agree). The row lists three tables of Go's library as they start; its card ties them to the program's text. -/
import Derived.Test.YtmjmoihggojpiaaDoorRows
import Derived.Test.YtmjmoihggojpiaaDoorRowKit
import Derived.Test.YtmjmoihggojpiaaDoorLawWalkB
import Derived.ProofKit
import Derived.LaidMore
import Derived.OpenShut
import Derived.Stop.Joined
import Derived.Stop.LaidErr
import Derived.Lib.LaidTab
import Derived.Lib.SmallJoins
set_option linter.unusedSimpArgs false
set_option linter.unusedVariables false
namespace Go.Proofs.YtmjmoihggojpiaaDoor
open Go.ChangeShapes Go.WideShapes Go.ChangeAt Go.WideMaps Go.WideElems Go.RowKit

theorem ownKn : ownKnob Tryd.prog.godebug = none := by kernel_rfl
theorem laidOut : laidOutB Tryd.prog = true := by kernel_rfl
theorem gPow : Tryd.prog.globalNamed "internal/strconv.uint64pow10" = some 0 := by kernel_rfl

/-- What the listed tables read as. -/
def tabs {H : Type} : List (String × DataW H) := [("math/bits.deBruijn32tab", Rows.laid_math_bits_deBruijn32tab), ("math/bits.deBruijn64tab", Rows.laid_math_bits_deBruijn64tab), ("internal/strconv.uint64pow10", Rows.laid_internal_strconv_uint64pow10)]

theorem door_met (os : Os) (args : Array Value) : laidMetH Tryd.prog tabs ((World.doorLaid Tryd.prog 400 os).forCall (fun _ _ => 0) ⟨#[], args, []⟩).memory :=
  laidMetH_of_parts3 (fuel := 8) (laidMet_of_run' 8 (by kernel_rfl) (by kernel_rfl)) (by kernel_rfl) (by kernel_rfl)
theorem gPowType : (Tryd.prog.globals[0]?).map (·.type) = some 99 := by kernel_rfl
theorem cellsPow : Tryd.prog.cellsOf 99 = 20 := by kernel_rfl
theorem cellsU64 : Tryd.prog.cellsOf 85 = 1 := by kernel_rfl
theorem powData : Rows.laid_internal_strconv_uint64pow10 (H := Unit) = Lib.tabData .u64 Lib.pow10Tab := by kernel_rfl

theorem tab_of_laid {W : World} (h : laidMetH Tryd.prog tabs W) : Tab W := by
  rw [MakeChecks.laidMetH_plain _ _ _ (by kernel_rfl)] at h
  have h2 := (laidMet.tail (laidMet.tail h))
  rw [powData] at h2
  exact Lib.tabIs_of_head gPow gPowType Tryd.underlying99 Tryd.underlying85 cellsU64 cellsPow h2

set_option maxRecDepth 100000 in
theorem liftedBy (os : Os) (started : os.Started) (H : Type) (enc : TypeId × Value → H) :
    ReturnsInHanded {} Tryd.checked os 3 .any (fun w args => (Rows.leapBySpec.pre enc Tryd.prog Tryd.f3 [] false w args ∧ laidMetH Tryd.prog tabs w) ∧ sizedMet enc Tryd.prog Tryd.f3 (OpenSpec.ofChange Rows.leapBySpec) false w args)
      (Rows.leapBySpec.post enc Tryd.prog Tryd.f3 false true false false) := by
  refine returnsInHanded_of_change_and (C := Tryd.checked) (X := fun w _ => laidMetH Tryd.prog tabs w) (fun _ _ _ hh h => h.of_heap hh) ownKn started (by kernel_rfl) Tryd.func3
    (ChangeSpec.witness_shaped (enc := enc) (C := Tryd.checked) (os := os) (X := fun w _ => laidMetH Tryd.prog tabs w) false (World.doorLaid Tryd.prog 400 os) #[.agg #[.int .i64 0, .bool false, .bool false, .bool false], .int .i64 0, .agg #[.int .i64 0, .int .i64 0, .bool false]] 8 rfl (World.shaped_of_RefB (by kernel_rfl) (by kernel_rfl)) (by kernel_rfl) (by kernel_rfl) (by kernel_rfl) (door_met os _)) ?_
  intro W base args ds gs before hval0 hW _ _ hL _
  have hval : ∀ (j : Nat) t v, Tryd.f3.params[j]? = some t → args[j]? = some v → Value.okWide Tryd.prog W .any base t v := hval0
  have hW' := hW
  obtain ⟨p, q, hA0, hV, rfl, hfz, hnd⟩ := hW
  have hA : DataW.TrodAll enc Tryd.prog W 0 (fun _ => true) true Tryd.f3.params.toList args.toList ds p := hA0
  rw [Tryd.params3] at hA hval
  obtain ⟨v0, v1, v2, d0, d1, d2, p0, p1, p2, rfl, rfl, rfl, h0, h1, h2⟩ := trodAll_three hA
  obtain ⟨rfl, rfl⟩ := trodVars_none hV
  obtain ⟨n0, n1, n2, n3, y0, y1, y2, y3, fn, rfl, -, -, t0, t1, t2, t3⟩ := Joins.open_agg4 Tryd.underlying23 (by kernel_rfl) (by kernel_rfl) (hval 0 _ v0 rfl rfl) h0
  obtain ⟨off, e0, -, -⟩ := DataW.trod_int Tryd.underlying3 t0
  obtain ⟨a, e1, -⟩ := DataW.trod_bool Tryd.underlying4 t1
  obtain ⟨b, e2, -⟩ := DataW.trod_bool Tryd.underlying4 t2
  obtain ⟨v, e3, -⟩ := DataW.trod_bool Tryd.underlying4 t3
  obtain ⟨tai, rfl, -, -, -⟩ := open_int Tryd.underlying3 (hval 1 _ v1 rfl rfl) h1
  obtain ⟨m0, m1, m2, z0, z1, z2, fm, rfl, -, -, s0, s1, s2⟩ := Joins.open_agg3 Tryd.underlying25 (by kernel_rfl) (by kernel_rfl) (hval 2 _ v2 rfl rfl) h2
  obtain ⟨lo, g0, -, -⟩ := DataW.trod_int Tryd.underlying3 s0
  obtain ⟨hi, g1, -, -⟩ := DataW.trod_int Tryd.underlying3 s1
  obtain ⟨k, g2, -⟩ := DataW.trod_bool Tryd.underlying4 s2
  simp only [List.cons.injEq, and_true] at e0 e1 e2 e3 g0 g1 g2
  subst e0; subst e1; subst e2; subst e3; subst g0; subst g1; subst g2
  refine (lawBy_t off a b v tai lo hi k W (tab_of_laid hL)).mono fun e W' ⟨he, hb⟩ => ?_
  subst he
  exact ⟨_, rfl, law_post laidOut Tryd.underlying4 rfl (by kernel_rfl) rfl rfl hW' hb⟩

theorem leapBy_row : Rows.LeapBySaid :=
  OpenClaim.holds_of_wide 3 Tryd.f3 rfl rfl rfl rfl rfl rfl rfl ⟨rfl, rfl, rfl, rfl, rfl⟩ rfl rfl rfl rfl rfl (by kernel_rfl) Tryd.func3 (by kernel_rfl)
    (of_decide_eq_true (by kernel_rfl)) (by unfold Func.isWrapper; first | (rw [if_pos (by decide +kernel)]; kernel_rfl) | (rw [if_neg (by decide +kernel)]; exact ⟨rfl, rfl⟩))
    (fun os started H enc _ => liftedBy os started H enc)
#print axioms leapBy_row
end Go.Proofs.YtmjmoihggojpiaaDoor
