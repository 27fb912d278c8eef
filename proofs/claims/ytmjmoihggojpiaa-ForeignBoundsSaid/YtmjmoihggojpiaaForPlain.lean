/- Ports, and how they are ordered: plain mathematics. -/
import Derived.Test.YtmjmoihggojpiaaProg
import Derived.Sort.Statements
set_option linter.unusedSimpArgs false
set_option linter.unusedVariables false
namespace Go.Proofs.Ytmjmoihggojpiaa
open Go

/-- A port: a clock's eight bytes, and a number. -/
structure Pt where
  a0 : Int
  a1 : Int
  a2 : Int
  a3 : Int
  a4 : Int
  a5 : Int
  a6 : Int
  a7 : Int
  n : Int
  deriving DecidableEq, Inhabited

def Pt.clock (p : Pt) : List Int := [p.a0, p.a1, p.a2, p.a3, p.a4, p.a5, p.a6, p.a7]
def Pt.all (p : Pt) : List Int := [p.a0, p.a1, p.a2, p.a3, p.a4, p.a5, p.a6, p.a7, p.n]
@[reducible] def encP (p : Pt) : List Value := [.int .u8 p.a0, .int .u8 p.a1, .int .u8 p.a2, .int .u8 p.a3, .int .u8 p.a4, .int .u8 p.a5, .int .u8 p.a6, .int .u8 p.a7, .int .i64 p.n]
theorem Pt.ext' {p q : Pt} (h : p.all = q.all) : p = q := by
  cases p; cases q; simp [Pt.all] at h; simp [h]

/-- The order of rows of numbers: -1, 0, 1. -/
def cmpL : List Int → List Int → Int
  | x :: xs, y :: ys => if x < y then -1 else if y < x then 1 else cmpL xs ys
  | _, _ => 0
theorem cmpL_range (a b : List Int) : cmpL a b = -1 ∨ cmpL a b = 0 ∨ cmpL a b = 1 := by
  induction a generalizing b with
  | nil => simp [cmpL]
  | cons x xs ih => cases b with
    | nil => simp [cmpL]
    | cons y ys => unfold cmpL; split
                   · simp
                   · split
                     · simp
                     · exact ih ys
theorem cmpL_self (a : List Int) : cmpL a a = 0 := by
  induction a with
  | nil => rfl
  | cons x xs ih => simp [cmpL, ih]
theorem cmpL_zero (a b : List Int) (hl : a.length = b.length) (h : cmpL a b = 0) : a = b := by
  induction a generalizing b with
  | nil => cases b with
    | nil => rfl
    | cons y ys => simp at hl
  | cons x xs ih => cases b with
    | nil => simp at hl
    | cons y ys =>
      unfold cmpL at h
      split at h
      · omega
      · split at h
        · omega
        · have : x = y := by omega
          rw [this, ih ys (by simpa using hl) h]
theorem cmpL_swap (a b : List Int) : cmpL b a = - cmpL a b := by
  induction a generalizing b with
  | nil => cases b <;> simp [cmpL]
  | cons x xs ih => cases b with
    | nil => simp [cmpL]
    | cons y ys =>
      unfold cmpL
      by_cases h1 : x < y
      · rw [if_pos h1, if_neg (by omega), if_pos h1]; rfl
      · by_cases h2 : y < x
        · simp [h1, h2]
        · rw [if_neg h1, if_neg h2, if_neg h1, if_neg h2]; exact ih ys
theorem cmpL_trans (a b c : List Int) (h1 : a.length = b.length) (h2 : b.length = c.length) (x : cmpL a b < 0) (y : cmpL b c < 0) : cmpL a c < 0 := by
  induction a generalizing b c with
  | nil => cases b <;> simp [cmpL] at x
  | cons p ps ih => cases b with
    | nil => simp at h1
    | cons q qs => cases c with
      | nil => simp at h2
      | cons r rs =>
        unfold cmpL at x y ⊢
        split at x
        · split at y
          · rw [if_pos (by omega)]; omega
          · split at y
            · omega
            · rw [if_pos (by omega)]; omega
        · split at x
          · omega
          · split at y
            · rw [if_pos (by omega)]; omega
            · split at y
              · omega
              · rw [if_neg (by omega), if_neg (by omega)]
                exact ih qs rs (by simpa using h1) (by simpa using h2) x y

def cmpP (p q : Pt) : Int := cmpL p.all q.all
theorem cmpP_range (p q : Pt) : cmpP p q = -1 ∨ cmpP p q = 0 ∨ cmpP p q = 1 := cmpL_range _ _
theorem cmpP_self (p : Pt) : cmpP p p = 0 := cmpL_self _
theorem cmpP_zero {p q : Pt} (h : cmpP p q = 0) : p = q := Pt.ext' (cmpL_zero _ _ rfl h)
theorem cmpP_swap (p q : Pt) : cmpP q p = - cmpP p q := cmpL_swap _ _
theorem cmpP_trans {p q r : Pt} (h1 : cmpP p q < 0) (h2 : cmpP q r < 0) : cmpP p r < 0 := cmpL_trans p.all q.all r.all rfl rfl h1 h2
/-- A clock's order, then the number's. -/
theorem cmpL_app (a b c d : List Int) (h : a.length = b.length) : cmpL (a ++ c) (b ++ d) = if cmpL a b = 0 then cmpL c d else cmpL a b := by
  induction a generalizing b with
  | nil => cases b with
    | nil => simp [cmpL]
    | cons y ys => simp at h
  | cons x xs ih => cases b with
    | nil => simp at h
    | cons y ys =>
      simp only [List.cons_append, cmpL]
      by_cases h1 : x < y
      · simp [h1]
      · by_cases h2 : y < x
        · simp [h1, h2]
        · simp only [h1, h2, if_false]; exact ih ys (by simpa using h)
def cmp1 (x y : Int) : Int := if x < y then -1 else if y < x then 1 else 0
theorem cmpP_or (p q : Pt) : cmpP p q = if cmpL p.clock q.clock = 0 then cmp1 p.n q.n else cmpL p.clock q.clock := by
  have := cmpL_app p.clock q.clock [p.n] [q.n] rfl
  unfold cmpP
  show cmpL (p.clock ++ [p.n]) (q.clock ++ [q.n]) = _
  rw [this]
  congr 1
end Go.Proofs.Ytmjmoihggojpiaa
