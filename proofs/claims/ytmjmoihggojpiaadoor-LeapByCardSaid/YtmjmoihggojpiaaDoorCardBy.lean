/- For every note, every time and every span: what a clock says of the time, by what was said, and of the span, is what the document says: the card: the three tables of Go's library that the row lists are tied to the program's text. -/
import Derived.Test.YtmjmoihggojpiaaDoorRowBy
import Derived.Test.YtmjmoihggojpiaaDoorCards
import Derived.Test.YtmjmoihggojpiaaDoorTie
import Derived.SevenTiedAt
namespace Go.Proofs.YtmjmoihggojpiaaDoor
open Go

theorem leapBy_holds : Rows.LeapByCardSaid :=
  Claim7.holds_tied_plain_at .later [] [.data, .data, .data] true _ false
    leapBy_row (fun _ h => by cases h) (by kernel_rfl) (fun _ h => by cases h) leapBy_row_tie rfl ⟨rfl, rfl⟩ (by kernel_rfl) rfl
    (fun f fn hf hfn => by
      obtain rfl : f = 3 := Option.some.inj ((show Tryd.prog.funcNamed "horologe/horologelaw16.LeapBy" = some 3 by kernel_rfl).symm.trans hf) |>.symm
      obtain rfl : fn = Tryd.f3 := (Option.some.inj (Tryd.func3.symm.trans hfn)).symm
      exact ⟨by kernel_rfl, fun j t ht => by
        rw [Tryd.params3] at ht
        have hm : t ∈ [23, 3, 25] := by simpa using Array.mem_of_getElem? ht
        have hall : ([23, 3, 25].all fun u => !Tryd.prog.wantsStandIn u) = true := by kernel_rfl
        exact (show Tryd.prog.wantsStandIn t = false by simpa using List.all_eq_true.1 hall t hm)⟩)
    (by kernel_rfl)
#print axioms leapBy_holds
end Go.Proofs.YtmjmoihggojpiaaDoor
