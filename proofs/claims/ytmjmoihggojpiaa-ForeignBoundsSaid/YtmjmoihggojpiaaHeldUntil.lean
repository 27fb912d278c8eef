/- A region that draws its order, in which loads of cells are taken first although the region's last operations, which wait for them, store to those cells: plain words about regions. -/
import Derived.OrdersHeld
import Derived.RegionTactic
import Derived.KernelRfl
namespace Go.Proofs.Ytmjmoihggojpiaa
open Go

theorem all1 {p : Nat → Prop} {a : Nat} (ha : p a) : ∀ i ∈ [a], p i := fun i hi => by
  rcases List.mem_singleton.1 hi with rfl; exact ha
theorem all2 {p : Nat → Prop} {a b : Nat} (ha : p a) (hb : p b) : ∀ i ∈ [a, b], p i := fun i hi => by
  rcases List.mem_cons.1 hi with rfl | hi
  · exact ha
  · rcases List.mem_singleton.1 hi with rfl; exact hb

section
variable {P : Program} {ops : Array Oper} {Q : Exit → Act → World → Prop} {md : Region.Mode} {S : World → Prop} {B : List Nat}

/-- Whatever order is picked from here on, and S holds behind every operation that is not listed in B. -/
def wpAnyU (P : Program) (md : Region.Mode) (ops : Array Oper) (Q : Exit → Act → World → Prop) (S : World → Prop) (B : List Nat) : Nat → Array Bool → Act → World → Prop
  | 0, listed, a, w => Region.ready md ops listed = [] ∧ Q .normal a w
  | fuel + 1, listed, a, w =>
    (Region.ready md ops listed = [] → Q .normal a w) ∧
    ∀ i ∈ Region.ready md ops listed, wpOp P ops Q i (fun a' w' => (B.contains i = false → S w') ∧ wpAnyU P md ops Q S B fuel (listed.setIfInBounds i true) a' w') a w

theorem wpAny_of_until : ∀ (fuel : Nat) (listed : Array Bool) (a : Act) (w : World), wpAnyU P md ops Q S B fuel listed a w → wpAny P md ops Q fuel listed a w
  | 0, _, _, _, h => h
  | fuel + 1, _, _, _, h => ⟨h.1, fun i hi => wpOp_mono (fun a' w' h' => wpAny_of_until fuel _ a' w' h'.2) (h.2 i hi)⟩

/-- Each of B that has not come up yet waits for i, or for another of B that has not. -/
def waits (md : Region.Mode) (ops : Array Oper) (B : List Nat) (listed : Array Bool) (i : Nat) : Bool :=
  B.all fun k => listed.getD k true || match ops[k]? with
    | some ok => ok.after.any fun e => Region.binds md e && (e.on == i || (B.contains e.on && !listed.getD e.on true))
    | none => true

theorem wpAnyU_first {i : Nat} {oi : Oper} {v : Value} (hi : ops[i]? = some oi) (hsel : ∀ (j : Nat) (o : Oper) cs b, ops[j]? = some o → o.op ≠ .select cs b)
    (hQ : ∀ c a w, Q (.panic c) (a.put oi.dst v) w → Q (.panic c) a w) :
    ∀ (fuel : Nat) (listed : Array Bool) (a : Act) (w : World), waits md ops B listed i = true →
      (∀ j oj, ops[j]? = some oj → j ≠ i → listed.getD j true = false → (∀ e ∈ oj.after, Region.binds md e = true → e.on ≠ i) → oi.apart ops oj = true) →
      i ∈ Region.ready md ops listed → YieldsIf P ops S oi v a → S w → B.contains i = false →
      wpAnyU P md ops Q S B fuel (listed.setIfInBounds i true) (a.put oi.dst v) w → wpAnyU P md ops Q S B (fuel + 1) listed a w := by
  intro fuel
  induction fuel with
  | zero =>
    intro listed a w _ _ hr hy hS hiB H
    refine ⟨fun h => (by rw [h] at hr; cases hr), fun j hj => ?_⟩
    by_cases hji : j = i
    · subst hji; exact hy.wpOp hi hS ⟨fun _ => hS, H⟩
    · have := ready_mono hj hji
      rw [H.1] at this
      cases this
  | succ fuel ih =>
    intro listed a w hB hfree hr hy hS hiB H
    refine ⟨fun h => (by rw [h] at hr; cases hr), fun j hj => ?_⟩
    by_cases hji : j = i
    · subst hji; exact hy.wpOp hi hS ⟨fun _ => hS, H⟩
    · have h1 := H.2 j (ready_mono hj hji)
      obtain ⟨hjun, oj, hoj, hall⟩ := mem_ready.1 hj
      have hnot : ∀ e ∈ oj.after, Region.binds md e = true → e.on ≠ i := fun e he hb heq => by
        have h1 := hall e he hb
        have h0 := (mem_ready.1 hr).1
        rw [heq] at h1
        rcases Nat.lt_or_ge i listed.size with h' | h'
        · simp [h'] at h0 h1; rw [h0] at h1; cases h1
        · simp [Array.getElem?_eq_none h'] at h1
      have hjB : B.contains j = false := by
        rcases hc : B.contains j with _ | _
        · rfl
        · have hm : j ∈ B := by simpa using hc
          have := List.all_eq_true.1 hB j hm
          rw [hoj, hjun, Bool.false_or] at this
          obtain ⟨e, he, hb⟩ := Array.any_eq_true'.1 this
          simp only [Bool.and_eq_true, Bool.or_eq_true, beq_iff_eq, Bool.not_eq_true'] at hb
          rcases hb.2 with hb2 | hb2
          · exact absurd hb2 (hnot e he hb.1)
          · have h1 := hall e he hb.1
            have h0 := hb2.2
            rcases Nat.lt_or_ge e.on listed.size with h' | h'
            · simp [h'] at h0 h1; rw [h0] at h1; cases h1
            · simp [Array.getElem?_eq_none h'] at h1
      have hB' : waits md ops B (listed.setIfInBounds j true) i = true := by
        unfold waits at *
        rw [List.all_eq_true] at *
        intro k hk
        have := hB k hk
        by_cases hjk : j = k
        · subst hjk
          have hj2 : B.contains j = true := by simpa using hk
          rw [hjB] at hj2; cases hj2
        · rw [getD_set_ne true hjk]
          rcases hok : ops[k]? with _ | ok
          · simp
          · rw [hok] at this
            simp only [Bool.or_eq_true] at this ⊢
            rcases this with h' | h'
            · exact .inl h'
            · refine .inr ?_
              obtain ⟨e, he, hb⟩ := Array.any_eq_true'.1 h'
              refine Array.any_eq_true'.2 ⟨e, he, ?_⟩
              simp only [Bool.and_eq_true, Bool.or_eq_true, beq_iff_eq, Bool.not_eq_true'] at hb ⊢
              refine ⟨hb.1, hb.2.imp id fun hx => ⟨hx.1, ?_⟩⟩
              have hne : j ≠ e.on := fun e' => by rw [← e', hjB] at hx; cases hx.1
              rw [getD_set_ne true hne]; exact hx.2
      have h2 := wpOp_putIf hoj (hfree j oj hoj hji hjun hnot) (fun cs b => hsel i oi cs b hi) (fun cs b => hsel j oj cs b hoj) hQ hy h1
      have hfree' : ∀ k ok, ops[k]? = some ok → k ≠ i → (listed.setIfInBounds j true).getD k true = false →
          (∀ e ∈ ok.after, Region.binds md e = true → e.on ≠ i) → oi.apart ops ok = true := fun k ok hk hki hun hno => by
        refine hfree k ok hk hki ?_ hno
        by_cases hjk : j = k
        · subst hjk; exact hjun
        · rw [getD_set_ne true hjk] at hun; exact hun
      refine wpOp_mono (fun a' w' h3 => ⟨h3.2.1, ih (listed.setIfInBounds j true) a' w' hB' hfree' (ready_mono hr (Ne.symm hji)) h3.1 (h3.2.1 hjB) hiB ?_⟩) h2
      rw [Array.setIfInBounds_comm _ _ hji]
      exact h3.2.2

/-- An operation that yields in whatever world, for which B need not wait. -/
theorem wpAnyU_firstW {i : Nat} {oi : Oper} {v : Value} (hi : ops[i]? = some oi) (hsel : ∀ (j : Nat) (o : Oper) cs b, ops[j]? = some o → o.op ≠ .select cs b)
    (hQ : ∀ c a w, Q (.panic c) (a.put oi.dst v) w → Q (.panic c) a w) (hiB : B.contains i = true) :
    ∀ (fuel : Nat) (listed : Array Bool) (a : Act) (w : World),
      (∀ j oj, ops[j]? = some oj → j ≠ i → listed.getD j true = false → (∀ e ∈ oj.after, Region.binds md e = true → e.on ≠ i) → oi.apart ops oj = true) →
      i ∈ Region.ready md ops listed → Yields P ops oi v a →
      wpAnyU P md ops Q S B fuel (listed.setIfInBounds i true) (a.put oi.dst v) w → wpAnyU P md ops Q S B (fuel + 1) listed a w := by
  intro fuel
  induction fuel with
  | zero =>
    intro listed a w _ hr hy H
    refine ⟨fun h => (by rw [h] at hr; cases hr), fun j hj => ?_⟩
    by_cases hji : j = i
    · subst hji; exact hy.wpOp hi ⟨(fun h => by rw [hiB] at h; cases h), H⟩
    · have := ready_mono hj hji
      rw [H.1] at this
      cases this
  | succ fuel ih =>
    intro listed a w hfree hr hy H
    refine ⟨fun h => (by rw [h] at hr; cases hr), fun j hj => ?_⟩
    by_cases hji : j = i
    · subst hji; exact hy.wpOp hi ⟨(fun h => by rw [hiB] at h; cases h), H⟩
    · have h1 := H.2 j (ready_mono hj hji)
      obtain ⟨hjun, oj, hoj, hall⟩ := mem_ready.1 hj
      have hnot : ∀ e ∈ oj.after, Region.binds md e = true → e.on ≠ i := fun e he hb heq => by
        have h1 := hall e he hb
        have h0 := (mem_ready.1 hr).1
        rw [heq] at h1
        rcases Nat.lt_or_ge i listed.size with h' | h'
        · simp [h'] at h0 h1; rw [h0] at h1; cases h1
        · simp [Array.getElem?_eq_none h'] at h1
      have h2 := wpOp_put hoj (hfree j oj hoj hji hjun hnot) (fun cs b => hsel i oi cs b hi) (fun cs b => hsel j oj cs b hoj) hQ hy h1
      have hfree' : ∀ k ok, ops[k]? = some ok → k ≠ i → (listed.setIfInBounds j true).getD k true = false →
          (∀ e ∈ ok.after, Region.binds md e = true → e.on ≠ i) → oi.apart ops ok = true := fun k ok hk hki hun hno => by
        refine hfree k ok hk hki ?_ hno
        by_cases hjk : j = k
        · subst hjk; exact hjun
        · rw [getD_set_ne true hjk] at hun; exact hun
      refine wpOp_mono (fun a' w' h3 => ⟨h3.2.1, ih (listed.setIfInBounds j true) a' w' hfree' (ready_mono hr (Ne.symm hji)) h3.1 ?_⟩) h2
      rw [Array.setIfInBounds_comm _ _ hji]
      exact h3.2.2

/-- Taken first: a load (or whatever yields wherever S holds), for which each of B waits. -/
theorem wpAnyU_take {i : Nat} {oi : Oper} {v : Value} {fuel : Nat} {listed : Array Bool} {a : Act} {w : World} (hi : ops[i]? = some oi)
    (hs : Region.noSelect ops = true) (hf : Region.free md ops listed i = true) (hr : (Region.ready md ops listed).contains i = true) (hB : (waits md ops B listed i && !B.contains i) = true)
    (hQ : ∀ c a w, Q (.panic c) (a.put oi.dst v) w → Q (.panic c) a w) (hS : S w) (hy : YieldsIf P ops S oi v a)
    (h : wpAnyU P md ops Q S B fuel (listed.setIfInBounds i true) (a.put oi.dst v) w) : wpAnyU P md ops Q S B (fuel + 1) listed a w := by
  simp only [Bool.and_eq_true, Bool.not_eq_true'] at hB
  exact wpAnyU_first hi (Region.noSelect_spec hs) hQ fuel listed a w hB.1 (Region.free_spec hi hf) (by simpa using hr) hy hS hB.2 h

/-- Taken first: what yields in whatever world and is itself one of B. -/
theorem wpAnyU_takeB {i : Nat} {oi : Oper} {v : Value} {fuel : Nat} {listed : Array Bool} {a : Act} {w : World} (hi : ops[i]? = some oi)
    (hs : Region.noSelect ops = true) (hf : Region.free md ops listed i = true) (hr : (Region.ready md ops listed).contains i = true) (hB : B.contains i = true)
    (hQ : ∀ c a w, Q (.panic c) (a.put oi.dst v) w → Q (.panic c) a w) (hy : Yields P ops oi v a)
    (h : wpAnyU P md ops Q S B fuel (listed.setIfInBounds i true) (a.put oi.dst v) w) : wpAnyU P md ops Q S B (fuel + 1) listed a w :=
  wpAnyU_firstW hi (Region.noSelect_spec hs) hQ hB fuel listed a w (Region.free_spec hi hf) (by simpa using hr) hy h

/-- From where none but those of B are left, S is no longer asked. -/
theorem wpAnyU_of_any : ∀ (fuel : Nat) (listed : Array Bool) (a : Act) (w : World), (∀ j, j ∈ B ∨ listed.getD j true = true) → wpAny P md ops Q fuel listed a w → wpAnyU P md ops Q S B fuel listed a w
  | 0, _, _, _, _, h => h
  | fuel + 1, listed, a, w, hB, h => by
    refine ⟨h.1, fun i hi => wpOp_mono (fun a' w' h' => ⟨fun hc => ?_, wpAnyU_of_any fuel _ a' w' (fun j => ?_) h'⟩) (h.2 i hi)⟩
    · rcases hB i with hb | hb
      · simp at hc; exact absurd hb hc
      · rw [(mem_ready.1 hi).1] at hb; cases hb
    · rcases hB j with hb | hb
      · exact .inl hb
      · by_cases hij : i = j
        · subst hij; rw [(mem_ready.1 hi).1] at hb; cases hb
        · exact .inr (by rw [getD_set_ne true hij]; exact hb)

theorem wpAnyU_all {rs : List Nat} {fuel : Nat} {listed : Array Bool} {a : Act} {w : World} (hr : Region.ready md ops listed = rs) (hne : rs ≠ [])
    (h : ∀ i ∈ rs, wpOp P ops Q i (fun a' w' => (B.contains i = false → S w') ∧ wpAnyU P md ops Q S B fuel (listed.setIfInBounds i true) a' w') a w) : wpAnyU P md ops Q S B (fuel + 1) listed a w :=
  ⟨fun h0 => absurd (hr ▸ h0) hne, hr ▸ h⟩

/-- One operation that comes up, S to be shown anew behind it. -/
theorem wpOpU_step {i : Nat} {o : Oper} {fuel : Nat} {listed : Array Bool} {a : Act} {w : World} (ho : ops[i]? = some o)
    (h : ∀ K' : Act → World → Prop, (∀ a' w', S w' → wpAnyU P md ops Q S B fuel (listed.setIfInBounds i true) a' w' → K' a' w') → if Region.wanted o (yielded ops a.tmps) = true then Oper.wp P o a w K' Q else K' (a.put o.dst undef) w) :
    wpOp P ops Q i (fun a' w' => (B.contains i = false → S w') ∧ wpAnyU P md ops Q S B fuel (listed.setIfInBounds i true) a' w') a w :=
  wpOp_step ho fun K' hK => h K' fun a' w' hs hu => hK a' w' ⟨fun _ => hs, hu⟩

/-- One of B that comes up. -/
theorem wpOpU_stepB {i : Nat} {o : Oper} {fuel : Nat} {listed : Array Bool} {a : Act} {w : World} (ho : ops[i]? = some o) (hB : B.contains i = true)
    (h : ∀ K' : Act → World → Prop, (∀ a' w', wpAnyU P md ops Q S B fuel (listed.setIfInBounds i true) a' w' → K' a' w') → if Region.wanted o (yielded ops a.tmps) = true then Oper.wp P o a w K' Q else K' (a.put o.dst undef) w) :
    wpOp P ops Q i (fun a' w' => (B.contains i = false → S w') ∧ wpAnyU P md ops Q S B fuel (listed.setIfInBounds i true) a' w') a w :=
  wpOp_step ho fun K' hK => h K' fun a' w' hu => hK a' w' ⟨(fun hc => by rw [hB] at hc; cases hc), hu⟩

theorem wpAnyU_done {listed : Array Bool} {a : Act} {w : World} (hr : Region.ready md ops listed = []) (h : Q .normal a w) :
    ∀ fuel, wpAnyU P md ops Q S B fuel listed a w
  | 0 => ⟨hr, h⟩
  | _ + 1 => ⟨fun _ => h, by rw [hr]; simp⟩

theorem wp_region_until {id : Nat} {a : Act} {w : World} (hm : P.follows .mixedOrders = true)
    (h : wpAnyU P .any ops Q S B ops.size (Array.replicate ops.size false) a w.drew) : (Code.region id ops true).wp P Q a w :=
  wp_region_any hm (wpAny_of_until _ _ _ _ h)

end
end Go.Proofs.Ytmjmoihggojpiaa
