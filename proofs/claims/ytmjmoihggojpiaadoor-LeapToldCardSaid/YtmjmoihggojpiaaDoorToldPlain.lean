/- What a clock says by what was said is the table's own label, up to the end of that day: plain mathematics over a list of leaps. -/
import Derived.Test.YtmjmoihggojpiaaDoorNewWalkB
import Derived.Test.YtmjmoihggojpiaaDoorNoteWalk
import Derived.Test.YtmjmoihggojpiaaDoorLeapPlain
set_option linter.unusedSimpArgs false
set_option linter.unusedVariables false
namespace Go.Proofs.YtmjmoihggojpiaaDoor
open Civ

def day (L : List (Int × Int)) (i : Nat) : Int := (L.getD i (0, 0)).1
def sgn (L : List (Int × Int)) (i : Nat) : Int := (L.getD i (0, 0)).2
def AllRight (L : List (Int × Int)) : Prop := ∀ i, i < L.length → rightAt L i = true

theorem right_next {L : List (Int × Int)} {i : Nat} (h : rightAt L (i + 1) = true) : day L i + 2 ≤ day L (i + 1) := by
  unfold rightAt at h
  simp only [Bool.and_eq_true, decide_eq_true_eq, Bool.or_eq_true, beq_iff_eq] at h
  have := h.2.2.2
  simp at this
  exact this
theorem days_rise {L : List (Int × Int)} (h : AllRight L) (i j : Nat) (hij : i < j) (hj : j < L.length) : day L i + 2 ≤ day L j := by
  induction j with
  | zero => omega
  | succ j ih =>
    have h1 := right_next (h (j + 1) hj)
    by_cases e : i = j
    · subst e; exact h1
    · have := ih (by omega) (by omega); omega

theorem anyLeap_yes (late : Bool) (d : Int) (up : Bool) (L : List (Int × Int)) (h : anyLeap late d up L = true) : late = true ∧ ∃ i, i < L.length ∧ day L i = d ∧ (if up then 0 < sgn L i else sgn L i < 0) := by
  induction L with
  | nil => simp [anyLeap] at h
  | cons x l ih =>
    unfold anyLeap at h
    rw [Bool.or_eq_true] at h
    rcases h with h | h
    · simp only [Bool.and_eq_true, decide_eq_true_eq] at h
      refine ⟨h.1, 0, by simp, by simpa [day] using h.2.1, ?_⟩
      cases up <;> simpa [sgn] using h.2.2
    · obtain ⟨hl, i, hi, hd, hs⟩ := ih h
      exact ⟨hl, i + 1, by simpa using hi, by simpa [day] using hd, by simpa [sgn] using hs⟩
theorem anyLeap_of (d : Int) (up : Bool) (L : List (Int × Int)) (i : Nat) (hi : i < L.length) (hd : day L i = d) (hs : if up then 0 < sgn L i else sgn L i < 0) : anyLeap true d up L = true := by
  induction L generalizing i with
  | nil => simp at hi
  | cons x l ih =>
    unfold anyLeap
    rw [Bool.or_eq_true]
    rcases i with _ | i
    · left
      simp only [day, List.getD_cons_zero] at hd
      simp only [sgn, List.getD_cons_zero] at hs
      cases up <;> simp_all
    · exact .inr (ih i (by simpa using hi) (by simpa [day] using hd) (by simpa [sgn] using hs))

theorem okSec_iff (u : Int) : okSec u = true ↔ 0 ≤ u ∧ u / 86400 < 2932897 := by
  unfold okSec
  rw [Bool.and_eq_true, okDay_iff, decide_eq_true_eq]
  omega

/-- Where a time lies among the leaps: behind j of them, on day D, so far into it. -/
structure Lies (o : Int) (L : List (Int × Int)) (t : Int) (A : Lab) (j : Nat) (D : Int) (v : Int) : Prop where
  off : offAt t o L = (offs o L).getD j 0
  u : t - (offs o L).getD j 0 = D * 86400 + v
  d0 : 0 ≤ D
  d1 : D < 2932897
  v0 : 0 ≤ v
  v1 : v ≤ 86400
  lo : ∀ i, i < j → i < L.length → day L i < D
  hi : ∀ i, j ≤ i → i < L.length → D ≤ day L i
  full : v = 86400 → j < L.length ∧ day L j = D ∧ sgn L j = 1 ∧ A = sixty D
  short : j < L.length → day L j = D → sgn L j = -1 → v ≤ 86398
  lab : v < 86400 → A = ofSec (D * 86400 + v)
  jle : j ≤ L.length

theorem lies_of (o : Int) (L : List (Int × Int)) (hL : AllRight L) (t : Int) (A : Lab) (h0 : 0 ≤ t) (h : labOut t o L = (A, true)) : ∃ j D v, Lies o L t A j D v := by
  have hlen := sts_len o L
  have hk := cnt_le t (sts o L)
  unfold labOut at h
  rw [if_neg (by omega)] at h
  cases hs : secOf t L (sts o L)
  · rw [if_neg (by rw [hs]; simp)] at h
    simp only [Prod.mk.injEq] at h
    obtain ⟨hA, hok⟩ := h
    have hoff : offAt t o L = (offs o L).getD (cnt t (sts o L)) 0 := by unfold offAt; rw [hs]; rfl
    have hlt := cnt_lt t (sts o L)
    have hat := cnt_at t (sts o L)
    have hsec := hs
    unfold secOf at hsec
    generalize hkk : cnt t (sts o L) = k at *
    obtain ⟨u, hu⟩ : ∃ u, u = t - (offs o L).getD k 0 := ⟨_, rfl⟩
    rw [← hu] at hA hok
    rw [okSec_iff] at hok
    have prev : ∀ i, i < k → i < L.length → day L i < u / 86400 := by
      intro i hi hil
      have h1 : day L i ≤ day L (k - 1) := by
        by_cases e : i = k - 1
        · rw [e]; omega
        · have := days_rise hL i (k - 1) (by omega) (by omega); omega
      have h2 : day L (k - 1) < u / 86400 := by
        have a1 := hlt (k - 1) (by omega)
        have a2 := sts_at o L (k - 1) (by omega)
        have a3 := offs_succ o L (k - 1) (by omega)
        rw [show k - 1 + 1 = k from by omega] at a3
        have a4 := rightAt_sign (hL (k - 1) (by omega))
        unfold startOf at a2
        simp only [Bool.and_eq_false_iff, decide_eq_false_iff_not] at hsec
        simp only [day]
        rcases a4 with a4 | a4
        · rw [if_neg (by omega)] at a2
          rcases hsec with q | q | q
          · omega
          · omega
          · omega
        · rw [if_pos (by omega)] at a2
          omega
      omega
    have next : ∀ i, k ≤ i → i < L.length → u / 86400 ≤ day L i ∧ (i = k → sgn L k = -1 → u ≤ (day L k + 1) * 86400 - 2) := by
      intro i hi hil
      have a1 := hat (by omega)
      have a2 := sts_at o L k (by omega)
      have a4 := rightAt_sign (hL k (by omega))
      unfold startOf at a2
      have h2 : u / 86400 ≤ day L k ∧ (sgn L k = -1 → u ≤ (day L k + 1) * 86400 - 2) := by
        simp only [day, sgn]
        rcases a4 with a4 | a4
        · rw [if_neg (by omega)] at a2
          exact ⟨by omega, by omega⟩
        · rw [if_pos (by omega)] at a2
          exact ⟨by omega, fun _ => by omega⟩
      refine ⟨?_, fun _ => h2.2⟩
      by_cases e : i = k
      · rw [e]; exact h2.1
      · have := days_rise hL k i (by omega) hil; omega
    refine ⟨k, u / 86400, u % 86400, hoff, by omega, by omega, by omega, by omega, by omega, prev, fun i h1 h2 => (next i h1 h2).1, fun e => by omega, fun h1 h2 h3 => ?_, fun _ => ?_, by omega⟩
    · have := (next k (Nat.le_refl _) h1).2 rfl h3
      omega
    · rw [← hA]; congr 1; omega
  · rw [if_pos hs] at h
    simp only [Prod.mk.injEq] at h
    obtain ⟨hA, hok⟩ := h
    have hoff : offAt t o L = (offs o L).getD (cnt t (sts o L) - 1) 0 := by unfold offAt; rw [if_pos hs]
    have hsec := hs
    unfold secOf at hsec
    simp only [Bool.and_eq_true, decide_eq_true_eq] at hsec
    generalize hkk : cnt t (sts o L) = k at *
    obtain ⟨j, rfl⟩ : ∃ j, k = j + 1 := ⟨k - 1, by omega⟩
    simp only [Nat.add_sub_cancel] at *
    rw [okDay_iff] at hok
    have a2 := sts_at o L j (by omega)
    have a4 := rightAt_sign (hL j (by omega))
    unfold startOf at a2
    rw [if_neg (by omega)] at a2
    have hd : day L j = (L.getD j (0, 0)).1 := rfl
    refine ⟨j, day L j, 86400, hoff, by rw [hd]; omega, by rw [hd]; omega, by rw [hd]; omega, by omega, by omega, fun i h1 h2 => ?_, fun i h1 h2 => ?_, fun _ => ⟨by omega, rfl, ?_, hA.symm⟩, fun h1 h2 h3 => ?_, fun h => by omega, by omega⟩
    · have := days_rise hL i j h1 (by omega); omega
    · by_cases e : i = j
      · rw [e]; omega
      · have := days_rise hL j i (by omega) h2; omega
    · unfold sgn; omega
    · unfold sgn at h3; omega

structure LabFacts (A : Lab) (D v : Int) : Prop where
  y : A.y = yOf D
  m : A.mo = mo D
  d : A.d = dOf D
  noon : A.h < 12 ↔ v < 43200
  late : lateOf A = decide (43200 ≤ v)
  h0 : 0 ≤ A.h ∧ A.h ≤ 100 ∧ 0 ≤ A.mi ∧ A.mi ≤ 100 ∧ 0 ≤ A.s ∧ A.s ≤ 100
  n : num A.y A.mo A.d = D
  y0 : 1970 ≤ A.y ∧ A.y ≤ 9999
  m0 : 1 ≤ A.mo ∧ A.mo ≤ 12
  dd : 1 ≤ A.d ∧ A.d ≤ long A.y A.mo

theorem lies_lab {o : Int} {L : List (Int × Int)} {t : Int} {A : Lab} {j : Nat} {D v : Int} (h : Lies o L t A j D v) : LabFacts A D v := by
  have a := yOf_spec D h.d0 h.d1
  have b := mo_spec D h.d0 h.d1
  have c := dOf_bd D h.d0 h.d1
  have q0 := h.v0
  have q1 := h.v1
  by_cases e : v = 86400
  · have hA := (h.full e).2.2.2
    unfold sixty at hA
    rw [if_pos ((okDay_iff D).2 ⟨h.d0, h.d1⟩)] at hA
    subst hA
    exact ⟨rfl, rfl, rfl, by simp; omega, by unfold lateOf; simp; omega, by simp, num_date D, ⟨a.1, a.2.1⟩, ⟨b.1, b.2.1⟩, c⟩
  · have hA := h.lab (by omega)
    have e1 : (D * 86400 + v) / 86400 = D := by omega
    have e2 : (D * 86400 + v) % 86400 = v := by omega
    have d0 := h.d0
    have d1 := h.d1
    unfold ofSec at hA
    rw [if_pos ((okSec_iff _).2 ⟨by omega, by omega⟩), e1, e2] at hA
    subst hA
    refine ⟨rfl, rfl, rfl, by simp; omega, ?_, by simp; omega, num_date D, ⟨a.1, a.2.1⟩, ⟨b.1, b.2.1⟩, c⟩
    unfold lateOf
    exact decide_eq_decide.2 (by simp; omega)

theorem same_j {o : Int} {L : List (Int × Int)} {t1 t2 : Int} {A1 A2 : Lab} {j1 j2 : Nat} {D v1 v2 : Int} (h1 : Lies o L t1 A1 j1 D v1) (h2 : Lies o L t2 A2 j2 D v2) : j1 = j2 := by
  have b1 := h1.jle
  have b2 := h2.jle
  rcases Nat.lt_trichotomy j1 j2 with h | h | h
  · have a := h2.lo j1 h (by omega)
    have b := h1.hi j1 (Nat.le_refl _) (by omega)
    omega
  · exact h
  · have a := h1.lo j2 h (by omega)
    have b := h2.hi j2 (Nat.le_refl _) (by omega)
    omega

/-- The law's plain heart. -/
theorem told {o : Int} {L : List (Int × Int)} (hL : AllRight L) (o1 : 0 ≤ o) (o2 : o ≤ 30000) (hn : L.length ≤ 64) {t1 t2 : Int} {A1 A2 : Lab} {j : Nat} {D v1 v2 : Int} (h1 : Lies o L t1 A1 j D v1) (h2 : Lies o L t2 A2 j D v2)
    (p1 : 0 ≤ t1) (p2 : t1 ≤ t2) (p3 : t2 ≤ 1099511627776) (late : Bool) (hl : late = decide (43200 ≤ (if v1 < 43200 ∧ 43200 ≤ v2 then v2 else v1))) :
    byOut ((offs o L).getD j 0) (anyLeap late D true L) (anyLeap late D false L) true t2 = (A2, true) := by
  have hb := offs_bd o L j h1.jle (fun i hi => rightAt_sign (hL i (by have := h1.jle; omega)))
  have hj := h1.jle
  obtain ⟨off, hoff⟩ : ∃ off, off = (offs o L).getD j 0 := ⟨_, rfl⟩
  have u1 := h1.u
  have u2 := h2.u
  rw [← hoff] at u1 u2 hb ⊢
  clear hoff
  have hv : v1 ≤ v2 := by omega
  have q0 := h2.v0
  have q1 := h2.v1
  have d0 := h2.d0
  have d1 := h2.d1
  have uniq : ∀ i, i < L.length → day L i = D → i = j := fun i hi hd => by
    rcases Nat.lt_or_ge i j with c | c
    · have := h1.lo i c hi; omega
    · rcases Nat.lt_or_ge j i with c2 | c2
      · have := days_rise hL j i c2 hi
        have := h1.hi j (Nat.le_refl _) (by omega)
        omega
      · omega
  by_cases e : v2 = 86400
  · obtain ⟨f1, f2, f3, f4⟩ := h2.full e
    have hlate : late = true := by
      rw [hl, decide_eq_true_eq]
      split <;> omega
    have ha : anyLeap late D true L = true := by rw [hlate]; exact anyLeap_of D true L j f1 f2 (by simp [f3])
    have hbn : anyLeap late D false L = false := by
      rcases hc : anyLeap late D false L with _ | _
      · rfl
      · obtain ⟨_, i, hi, hd, hs⟩ := anyLeap_yes _ _ _ _ hc
        rw [uniq i hi hd] at hs
        simp at hs; omega
    rw [ha, byOut_61 _ _ _ hbn (by omega) (by omega) (by omega) (by omega) (by omega) (by omega), show (t2 - off) / 86400 - 1 = D from by omega, (okDay_iff D).2 ⟨d0, d1⟩, f4]
  · have hab : (anyLeap late D true L && anyLeap late D false L) = false := by
      rcases ha : anyLeap late D true L with _ | _
      · rfl
      · rcases hc : anyLeap late D false L with _ | _
        · rfl
        · obtain ⟨_, i, hi, hd, hs⟩ := anyLeap_yes _ _ _ _ ha
          obtain ⟨_, i', hi', hd', hs'⟩ := anyLeap_yes _ _ _ _ hc
          rw [uniq i hi hd] at hs
          rw [uniq i' hi' hd'] at hs'
          simp at hs hs'; omega
    rw [byOut_plain _ _ _ _ hab (by omega) (by omega) (by omega) (by omega) ?_ ?_, h2.lab (by omega), u2, (okSec_iff _).2 ⟨by omega, by omega⟩]
    · rcases ha : anyLeap late D true L with _ | _
      · exact .inl rfl
      · right
        obtain ⟨hl2, _⟩ := anyLeap_yes _ _ _ _ ha
        rw [hl, decide_eq_true_eq] at hl2
        split at hl2 <;> omega
    · rcases ha : anyLeap late D false L with _ | _
      · exact .inl rfl
      · right
        obtain ⟨_, i, hi, hd, hs⟩ := anyLeap_yes _ _ _ _ ha
        have e1 := uniq i hi hd
        subst e1
        simp at hs
        have hs2 := rightAt_sign (hL i hi)
        have := h2.short hi hd (by unfold sgn at hs ⊢; omega)
        omega
end Go.Proofs.YtmjmoihggojpiaaDoor
