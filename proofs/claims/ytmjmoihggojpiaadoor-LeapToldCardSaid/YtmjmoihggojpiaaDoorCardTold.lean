/- For every table of leaps and every two times of one day: what a clock says by what was said is the table's own label, up to the end of that day: the card: the three tables of Go's library that the row lists are tied to the program's text. -/
import Derived.Test.YtmjmoihggojpiaaDoorRowTold
import Derived.Test.YtmjmoihggojpiaaDoorCards
import Derived.Test.YtmjmoihggojpiaaDoorTie
import Derived.SevenTiedAt
namespace Go.Proofs.YtmjmoihggojpiaaDoor
open Go

theorem leapTold_holds : Rows.LeapToldCardSaid :=
  Claim7.holds_tied_plain_at .later [] [.data, .data, .data] true _ false
    leapTold_row (fun _ h => by cases h) (by kernel_rfl) (fun _ h => by cases h) leapTold_row_tie rfl ⟨rfl, rfl⟩ (by kernel_rfl) rfl
    (fun f fn hf hfn => by
      obtain rfl : f = 4 := Option.some.inj ((show Tryd.prog.funcNamed "horologe/horologelaw16.LeapTold" = some 4 by kernel_rfl).symm.trans hf) |>.symm
      obtain rfl : fn = Tryd.f4 := (Option.some.inj (Tryd.func4.symm.trans hfn)).symm
      exact ⟨by kernel_rfl, fun j t ht => by
        rw [Tryd.params4] at ht
        have hm : t ∈ [44, 3, 3] := by simpa using Array.mem_of_getElem? ht
        have hall : ([44, 3, 3].all fun u => !Tryd.prog.wantsStandIn u) = true := by kernel_rfl
        exact (show Tryd.prog.wantsStandIn t = false by simpa using List.all_eq_true.1 hall t hm)⟩)
    (by kernel_rfl)
#print axioms leapTold_holds
end Go.Proofs.YtmjmoihggojpiaaDoor
