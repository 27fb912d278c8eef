/- Small laws on worlds: a store turns no cell into none. -/
import Derived.Test.YtmjmoihggojpiaaDoorProg
import Derived.WalkKit
set_option linter.unusedSimpArgs false
set_option linter.unusedVariables false
namespace Go.Proofs.YtmjmoihggojpiaaDoor

theorem isSome_setCell (w : World) (a b : Addr) (v : Value) : ((w.setCell a v).cell? b).isSome = (w.cell? b).isSome := by
  unfold World.setCell World.cell?
  simp only [Array.getElem?_modify]
  by_cases h : a.block = b.block
  · rw [if_pos h]
    cases hb : w.heap[b.block]? with
    | none => simp [h, hb]
    | some o =>
      cases o <;> simp [h, hb]
      rename_i c e f
      split
      · rfl
      · split
        · rfl
        · by_cases h2 : b.off < c.size
          · simp [h2]
          · simp [h2]
  · rw [if_neg h]
end Go.Proofs.YtmjmoihggojpiaaDoor
