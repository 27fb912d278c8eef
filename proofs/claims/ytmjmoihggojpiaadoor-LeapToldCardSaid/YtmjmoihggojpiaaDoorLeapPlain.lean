/- What a clock says of a time by what was said, and the offsets of a table: plain mathematics. -/
import Derived.Test.YtmjmoihggojpiaaDoorCivPlain
set_option linter.unusedSimpArgs false
set_option linter.unusedVariables false
namespace Go.Proofs.YtmjmoihggojpiaaDoor.Civ

def byBad (off : Int) (a b v : Bool) (tai : Int) : Bool := !v || (a && b) || decide (off < -32768) || decide (32768 ≤ off) || decide (tai < 0) || decide (1099511627776 < tai)
def byOut (off : Int) (a b v : Bool) (tai : Int) : Lab × Bool :=
  if byBad off a b v tai = true then (Lab.zero, false)
  else if a = true ∧ 0 < tai - off ∧ (tai - off) % 86400 = 0 then (sixty ((tai - off) / 86400 - 1), okDay ((tai - off) / 86400 - 1))
  else if b = true ∧ (tai - off + 1) % 86400 = 0 then (ofSec (tai - off + 1), okSec (tai - off + 1))
  else (ofSec (tai - off), okSec (tai - off))

theorem byOut_bad (off : Int) (a b v : Bool) (tai : Int) (h : byBad off a b v tai = true) : byOut off a b v tai = (Lab.zero, false) := by
  unfold byOut; rw [if_pos h]
theorem byBad_not (off : Int) (a b : Bool) (tai : Int) (hab : (a && b) = false) (h1 : -32768 ≤ off) (h2 : off < 32768) (h3 : 0 ≤ tai) (h4 : tai ≤ 1099511627776) : ¬ byBad off a b true tai = true := by
  have e1 : ¬ off < -32768 := by omega
  have e2 : ¬ 32768 ≤ off := by omega
  have e3 : ¬ tai < 0 := by omega
  have e4 : ¬ 1099511627776 < tai := by omega
  simp [byBad, hab, e1, e2, e3, e4]
theorem byOut_61 (off : Int) (b : Bool) (tai : Int) (hab : b = false) (h1 : -32768 ≤ off) (h2 : off < 32768) (h3 : 0 ≤ tai) (h4 : tai ≤ 1099511627776) (hu : 0 < tai - off) (hd : (tai - off) % 86400 = 0) :
    byOut off true b true tai = (sixty ((tai - off) / 86400 - 1), okDay ((tai - off) / 86400 - 1)) := by
  unfold byOut; rw [if_neg (byBad_not off true b tai (by simp [hab]) h1 h2 h3 h4), if_pos ⟨rfl, hu, hd⟩]
theorem byOut_59 (off : Int) (a : Bool) (tai : Int) (hab : a = false) (h1 : -32768 ≤ off) (h2 : off < 32768) (h3 : 0 ≤ tai) (h4 : tai ≤ 1099511627776) (hd : (tai - off + 1) % 86400 = 0) :
    byOut off a true true tai = (ofSec (tai - off + 1), okSec (tai - off + 1)) := by
  unfold byOut; rw [if_neg (byBad_not off a true tai (by simp [hab]) h1 h2 h3 h4), if_neg (by rw [hab]; simp), if_pos ⟨rfl, hd⟩]
theorem byOut_plain (off : Int) (a b : Bool) (tai : Int) (hab : (a && b) = false) (h1 : -32768 ≤ off) (h2 : off < 32768) (h3 : 0 ≤ tai) (h4 : tai ≤ 1099511627776)
    (ha : a = false ∨ ¬ (0 < tai - off ∧ (tai - off) % 86400 = 0)) (hb : b = false ∨ ¬ (tai - off + 1) % 86400 = 0) :
    byOut off a b true tai = (ofSec (tai - off), okSec (tai - off)) := by
  unfold byOut; rw [if_neg (byBad_not off a b tai hab h1 h2 h3 h4), if_neg, if_neg]
  · rintro ⟨rfl, h⟩; rcases hb with hb | hb
    · cases hb
    · exact hb h
  · rintro ⟨rfl, h⟩; rcases ha with ha | ha
    · cases ha
    · exact ha h

end Go.Proofs.YtmjmoihggojpiaaDoor.Civ
