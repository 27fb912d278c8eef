/- The plain mathematics of days and labels: the number of a day by years and months, and the label of a second. No program in sight. -/
set_option linter.unusedSimpArgs false
set_option linter.unusedVariables false
namespace Go.Proofs.YtmjmoihggojpiaaDoor.Civ

def leapB (y : Int) : Bool := (decide (y % 4 = 0) && !decide (y % 100 = 0)) || decide (y % 400 = 0)
def lp (y : Int) : Int := if leapB y then 1 else 0
def long (y m : Int) : Int := if m = 2 then 28 + lp y else if m = 4 ∨ m = 6 ∨ m = 9 ∨ m = 11 then 30 else 31
def aheadY (y : Int) : Int := 365 * (y - 1970) + ((y - 1) / 4 - (y - 1) / 100 + (y - 1) / 400) - 477
def cum (y m : Int) : Int :=
  if m ≤ 1 then 0 else if m = 2 then 31 else if m = 3 then 59 + lp y else if m = 4 then 90 + lp y else if m = 5 then 120 + lp y else if m = 6 then 151 + lp y
  else if m = 7 then 181 + lp y else if m = 8 then 212 + lp y else if m = 9 then 243 + lp y else if m = 10 then 273 + lp y else if m = 11 then 304 + lp y
  else if m = 12 then 334 + lp y else 365 + lp y

theorem lp_01 (y : Int) : 0 ≤ lp y ∧ lp y ≤ 1 := by unfold lp; split <;> omega
theorem lp_if (y : Int) : lp y = if (y % 4 = 0 ∧ ¬ y % 100 = 0) ∨ y % 400 = 0 then 1 else 0 := by
  unfold lp leapB
  by_cases a : y % 4 = 0 <;> by_cases b : y % 100 = 0 <;> by_cases c : y % 400 = 0 <;> simp [a, b, c]
theorem ahead_succ (y : Int) : aheadY (y + 1) = aheadY y + 365 + lp y := by
  rw [lp_if]; unfold aheadY; split <;> omega
theorem ahead_mono (a b : Int) (h : a ≤ b) : aheadY a ≤ aheadY b := by unfold aheadY; omega
theorem ahead_lo : aheadY 1970 = 0 := by decide
theorem ahead_hi : aheadY 10000 = 2932897 := by decide
theorem ahead_bd (y : Int) (h1 : 1970 ≤ y) (h2 : y ≤ 10000) : 0 ≤ aheadY y ∧ aheadY y ≤ 2932897 := by
  have := ahead_mono 1970 y h1; have := ahead_mono y 10000 h2; rw [ahead_lo] at *; rw [ahead_hi] at *; omega
theorem ahead_guess (d : Int) (h : 0 ≤ d) : aheadY (1970 + d / 366) ≤ d := by unfold aheadY; omega
theorem cum_succ (y m : Int) (h1 : 1 ≤ m) (h2 : m ≤ 12) : cum y (m + 1) = cum y m + long y m := by
  have h : m = 1 ∨ m = 2 ∨ m = 3 ∨ m = 4 ∨ m = 5 ∨ m = 6 ∨ m = 7 ∨ m = 8 ∨ m = 9 ∨ m = 10 ∨ m = 11 ∨ m = 12 := by omega
  rcases h with rfl | rfl | rfl | rfl | rfl | rfl | rfl | rfl | rfl | rfl | rfl | rfl <;> simp [cum, long] <;> omega
theorem cum_one (y : Int) : cum y 1 = 0 := by simp [cum]
theorem cum_end (y : Int) : cum y 13 = 365 + lp y := by simp [cum]
theorem long_bd (y m : Int) : 28 ≤ long y m ∧ long y m ≤ 31 := by
  have := lp_01 y; unfold long; split <;> (try split) <;> omega
theorem ite_bd {c : Prop} [Decidable c] {a b : Int} (ha : 0 ≤ a ∧ a ≤ 366) (hb : 0 ≤ b ∧ b ≤ 366) : 0 ≤ (if c then a else b) ∧ (if c then a else b) ≤ 366 := by
  by_cases h : c
  · rw [if_pos h]; exact ha
  · rw [if_neg h]; exact hb
theorem cum_bd (y m : Int) : 0 ≤ cum y m ∧ cum y m ≤ 366 := by
  have h := lp_01 y
  unfold cum
  generalize lp y = k at h
  repeat (first | exact ⟨by omega, by omega⟩ | refine ite_bd ⟨by omega, by omega⟩ ?_)

/-- The year of a day. -/
def yFrom : Nat → Int → Int → Int
  | 0, y, _ => y
  | n + 1, y, d => if d < aheadY (y + 1) then y else yFrom n (y + 1) d
def yOf (d : Int) : Int := yFrom 8029 1970 d
theorem yFrom_spec (n : Nat) : ∀ y d : Int, aheadY y ≤ d → d < aheadY (y + n + 1) →
    y ≤ yFrom n y d ∧ yFrom n y d ≤ y + n ∧ aheadY (yFrom n y d) ≤ d ∧ d < aheadY (yFrom n y d + 1) := by
  induction n with
  | zero => intro y d h1 h2; simp only [yFrom]; simp at h2; exact ⟨by omega, by omega, h1, h2⟩
  | succ n ih =>
    intro y d h1 h2
    simp only [yFrom]
    by_cases c : d < aheadY (y + 1)
    · rw [if_pos c]; exact ⟨by omega, by omega, h1, c⟩
    · rw [if_neg c]
      obtain ⟨a, b, e, f⟩ := ih (y + 1) d (by omega) (by rw [show y + 1 + (n : Int) + 1 = y + ((n + 1 : Nat) : Int) + 1 from by omega]; exact h2)
      exact ⟨by omega, by omega, e, f⟩
theorem yOf_spec (d : Int) (h1 : 0 ≤ d) (h2 : d < 2932897) : 1970 ≤ yOf d ∧ yOf d ≤ 9999 ∧ aheadY (yOf d) ≤ d ∧ d < aheadY (yOf d + 1) := by
  have e : (1970 : Int) + ((8029 : Nat) : Int) + 1 = 10000 := by omega
  have := yFrom_spec 8029 1970 d (by rw [ahead_lo]; exact h1) (by rw [e, ahead_hi]; exact h2)
  unfold yOf
  generalize yFrom 8029 1970 d = r at this ⊢
  omega
theorem yOf_uniq (d y : Int) (h1 : 0 ≤ d) (h2 : d < 2932897) (h3 : aheadY y ≤ d) (h4 : d < aheadY (y + 1)) : yOf d = y := by
  obtain ⟨_, _, a, b⟩ := yOf_spec d h1 h2
  by_cases c : yOf d < y
  · have := ahead_mono (yOf d + 1) y (by omega); omega
  · by_cases c' : y < yOf d
    · have := ahead_mono (y + 1) (yOf d) (by omega); omega
    · omega

/-- The month of a day of a year. -/
def mFrom : Nat → Int → Int → Int → Int
  | 0, _, m, _ => m
  | n + 1, y, m, r => if r < cum y (m + 1) then m else mFrom n y (m + 1) r
def mOf (y r : Int) : Int := mFrom 11 y 1 r
theorem mFrom_spec (n : Nat) : ∀ y m r : Int, cum y m ≤ r → r < cum y (m + n + 1) →
    m ≤ mFrom n y m r ∧ mFrom n y m r ≤ m + n ∧ cum y (mFrom n y m r) ≤ r ∧ r < cum y (mFrom n y m r + 1) := by
  induction n with
  | zero => intro y m r h1 h2; simp only [mFrom]; simp at h2; exact ⟨by omega, by omega, h1, h2⟩
  | succ n ih =>
    intro y m r h1 h2
    simp only [mFrom]
    by_cases c : r < cum y (m + 1)
    · rw [if_pos c]; exact ⟨by omega, by omega, h1, c⟩
    · rw [if_neg c]
      obtain ⟨a, b, e, f⟩ := ih y (m + 1) r (by omega) (by rw [show m + 1 + (n : Int) + 1 = m + ((n + 1 : Nat) : Int) + 1 from by omega]; exact h2)
      exact ⟨by omega, by omega, e, f⟩
theorem mOf_spec (y r : Int) (h1 : 0 ≤ r) (h2 : r < 365 + lp y) : 1 ≤ mOf y r ∧ mOf y r ≤ 12 ∧ cum y (mOf y r) ≤ r ∧ r < cum y (mOf y r + 1) := by
  have e : (1 : Int) + ((11 : Nat) : Int) + 1 = 13 := by omega
  have := mFrom_spec 11 y 1 r (by rw [cum_one]; exact h1) (by rw [e, cum_end]; exact h2)
  unfold mOf
  generalize mFrom 11 y 1 r = k at this ⊢
  omega
theorem cum_mono (y a b : Int) (h1 : 1 ≤ a) (h : a ≤ b) (h2 : b ≤ 13) : cum y a ≤ cum y b := by
  have key : ∀ n : Nat, a + n ≤ 13 → cum y a ≤ cum y (a + n) := by
    intro n
    induction n with
    | zero => intro _; simp
    | succ n ih =>
      intro hn
      have e := cum_succ y (a + n) (by omega) (by omega)
      have l := long_bd y (a + n)
      have := ih (by omega)
      rw [show a + ((n + 1 : Nat) : Int) = a + n + 1 from by omega]; omega
  obtain ⟨n, rfl⟩ : ∃ n : Nat, b = a + n := ⟨(b - a).toNat, by omega⟩
  exact key n h2
theorem mOf_uniq (y r m : Int) (h1 : 0 ≤ r) (h2 : r < 365 + lp y) (hm1 : 1 ≤ m) (hm2 : m ≤ 12) (h3 : cum y m ≤ r) (h4 : r < cum y (m + 1)) : mOf y r = m := by
  obtain ⟨a, b, c, d⟩ := mOf_spec y r h1 h2
  by_cases e : mOf y r < m
  · have := cum_mono y (mOf y r + 1) m (by omega) (by omega) (by omega); omega
  · by_cases e' : m < mOf y r
    · have := cum_mono y (m + 1) (mOf y r) (by omega) (by omega) (by omega); omega
    · omega

/-- A label. -/
structure Lab where
  y : Int
  mo : Int
  d : Int
  h : Int
  mi : Int
  s : Int
def Lab.zero : Lab := ⟨0, 0, 0, 0, 0, 0⟩
/-- The number of a day. -/
def num (y m d : Int) : Int := aheadY y + cum y m + d - 1
def okDay (n : Int) : Bool := decide (0 ≤ n) && decide (n < 2932897)
def mo (n : Int) : Int := mOf (yOf n) (n - aheadY (yOf n))
def dOf (n : Int) : Int := n - aheadY (yOf n) - cum (yOf n) (mo n) + 1
theorem okDay_iff (n : Int) : okDay n = true ↔ 0 ≤ n ∧ n < 2932897 := by simp [okDay]
theorem okDay_not (n : Int) : okDay n = false ↔ ¬ (0 ≤ n ∧ n < 2932897) := by
  rw [← okDay_iff]; simp
theorem rest_bd (n : Int) (h1 : 0 ≤ n) (h2 : n < 2932897) : 0 ≤ n - aheadY (yOf n) ∧ n - aheadY (yOf n) < 365 + lp (yOf n) := by
  obtain ⟨_, _, a, b⟩ := yOf_spec n h1 h2
  rw [ahead_succ] at b; omega
theorem mo_spec (n : Int) (h1 : 0 ≤ n) (h2 : n < 2932897) : 1 ≤ mo n ∧ mo n ≤ 12 ∧ cum (yOf n) (mo n) ≤ n - aheadY (yOf n) ∧ n - aheadY (yOf n) < cum (yOf n) (mo n + 1) := by
  obtain ⟨a, b⟩ := rest_bd n h1 h2
  exact mOf_spec _ _ a b
theorem dOf_bd (n : Int) (h1 : 0 ≤ n) (h2 : n < 2932897) : 1 ≤ dOf n ∧ dOf n ≤ long (yOf n) (mo n) := by
  obtain ⟨a, b, c, d⟩ := mo_spec n h1 h2
  rw [cum_succ _ _ a b] at d
  unfold dOf; omega
theorem num_date (n : Int) : num (yOf n) (mo n) (dOf n) = n := by unfold num dOf; omega
/-- Whatever year, month and day have a number are those of it. -/
theorem date_num (y m d : Int) (hy1 : 1970 ≤ y) (hy2 : y ≤ 9999) (hm1 : 1 ≤ m) (hm2 : m ≤ 12) (hd1 : 1 ≤ d) (hd2 : d ≤ long y m) :
    0 ≤ num y m d ∧ num y m d < 2932897 ∧ yOf (num y m d) = y ∧ mo (num y m d) = m ∧ dOf (num y m d) = d := by
  have c0 := cum_bd y m
  have cs := cum_succ y m hm1 hm2
  have ce := cum_mono y (m + 1) 13 (by omega) (by omega) (by omega)
  rw [cum_end] at ce
  have as := ahead_succ y
  have a0 := ahead_mono 1970 y hy1
  have a1 := ahead_mono (y + 1) 10000 (by omega)
  rw [ahead_lo] at a0; rw [ahead_hi] at a1
  have h1 : 0 ≤ num y m d := by unfold num; omega
  have h2 : num y m d < 2932897 := by unfold num; omega
  have ey : yOf (num y m d) = y := yOf_uniq _ _ h1 h2 (by unfold num; omega) (by unfold num; omega)
  have em : mo (num y m d) = m := by
    unfold mo; rw [ey]
    exact mOf_uniq _ _ _ (by unfold num; omega) (by unfold num; omega) hm1 hm2 (by unfold num; omega) (by unfold num; omega)
  exact ⟨h1, h2, ey, em, by unfold dOf; rw [ey, em]; unfold num; omega⟩

/-- The label of a second. -/
def okSec (u : Int) : Bool := decide (0 ≤ u) && okDay (u / 86400)
def ofSec (u : Int) : Lab := if okSec u = true then ⟨yOf (u / 86400), mo (u / 86400), dOf (u / 86400), u % 86400 / 3600, u % 86400 / 60 % 60, u % 86400 % 60⟩ else Lab.zero
/-- The sixtieth second of a day. -/
def sixty (n : Int) : Lab := if okDay n = true then ⟨yOf n, mo n, dOf n, 23, 59, 60⟩ else Lab.zero

end Go.Proofs.YtmjmoihggojpiaaDoor.Civ
