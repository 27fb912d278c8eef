/- How many of a row of numbers are passed; the offsets and the starts of leaps: plain mathematics. -/
import Derived.Test.YtmjmoihggojpiaaDoorLeapPlain
set_option linter.unusedSimpArgs false
set_option linter.unusedVariables false
namespace Go.Proofs.YtmjmoihggojpiaaDoor.Civ

/-- How many numbers from the row's head on are at most t. -/
def cnt (t : Int) : List Int → Nat
  | [] => 0
  | x :: xs => if x ≤ t then cnt t xs + 1 else 0
theorem cnt_le (t : Int) (xs : List Int) : cnt t xs ≤ xs.length := by
  induction xs with
  | nil => simp [cnt]
  | cons x xs ih => unfold cnt; split <;> simp <;> omega
theorem cnt_of (t : Int) (xs : List Int) : ∀ k, k ≤ xs.length → (∀ j, j < k → xs.getD j 0 ≤ t) → (k < xs.length → t < xs.getD k 0) → cnt t xs = k := by
  induction xs with
  | nil => intro k hk _ _; simp at hk; simp [cnt, hk]
  | cons x xs ih =>
    intro k hk h1 h2
    cases k with
    | zero =>
      have := h2 (by simp)
      simp at this
      unfold cnt; rw [if_neg (by omega)]
    | succ k =>
      have h0 := h1 0 (by omega)
      simp at h0
      unfold cnt; rw [if_pos h0]
      have := ih k (by simpa using hk) (fun j hj => by have := h1 (j + 1) (by omega); simpa using this) (fun hj => by have := h2 (by simpa using hj); simpa using this)
      omega
theorem cnt_lt (t : Int) (xs : List Int) : ∀ j, j < cnt t xs → xs.getD j 0 ≤ t := by
  induction xs with
  | nil => intro j hj; simp [cnt] at hj
  | cons x xs ih =>
    intro j hj
    unfold cnt at hj
    split at hj
    · rename_i h
      cases j with
      | zero => simpa using h
      | succ j => have := ih j (by omega); simpa using this
    · omega
theorem cnt_at (t : Int) (xs : List Int) (h : cnt t xs < xs.length) : t < xs.getD (cnt t xs) 0 := by
  induction xs with
  | nil => simp at h
  | cons x xs ih =>
    by_cases hx : x ≤ t
    · have e : cnt t (x :: xs) = cnt t xs + 1 := by simp [cnt, hx]
      rw [e] at h ⊢
      have := ih (by simpa using h)
      simpa using this
    · have e : cnt t (x :: xs) = 0 := by simp [cnt, hx]
      rw [e]; simp; omega

def idxGt (t : Int) (xs : List Int) : Int := if cnt t xs < xs.length then (cnt t xs : Int) else -1

/-- The offsets behind each leap, and when each happens. -/
def offs (o : Int) : List (Int × Int) → List Int
  | [] => [o]
  | (_, s) :: l => o :: offs (o + s) l
def startOf (o : Int) (x : Int × Int) : Int := if x.2 < 0 then (x.1 + 1) * 86400 + o - 1 else (x.1 + 1) * 86400 + o
def sts (o : Int) : List (Int × Int) → List Int
  | [] => []
  | x :: l => startOf o x :: sts (o + x.2) l
theorem offs_len (o : Int) (l : List (Int × Int)) : (offs o l).length = l.length + 1 := by
  induction l generalizing o with
  | nil => rfl
  | cons x l ih => obtain ⟨d, s⟩ := x; simp [offs, ih]
theorem sts_len (o : Int) (l : List (Int × Int)) : (sts o l).length = l.length := by
  induction l generalizing o with
  | nil => rfl
  | cons x l ih => simp [sts, ih]

/-- Is a time the second of the last leap itself that has happened, which has a second more? -/
def secOf (tai : Int) (l : List (Int × Int)) (s : List Int) : Bool :=
  decide (0 < cnt tai s) && (decide (0 < (l.getD (cnt tai s - 1) (0, 0)).2) && decide (s.getD (cnt tai s - 1) 0 = tai))
theorem secOf_zero (tai : Int) (l : List (Int × Int)) (s : List Int) (h : cnt tai s = 0) : secOf tai l s = false := by unfold secOf; rw [h]; rfl
theorem secOf_succ (tai : Int) (l : List (Int × Int)) (s : List Int) (m : Nat) (h : cnt tai s = m + 1) :
    secOf tai l s = (decide (0 < (l.getD m (0, 0)).2) && decide (s.getD m 0 = tai)) := by unfold secOf; rw [h]; simp

end Go.Proofs.YtmjmoihggojpiaaDoor.Civ
