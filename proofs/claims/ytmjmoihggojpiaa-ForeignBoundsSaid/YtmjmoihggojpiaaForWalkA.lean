/- The walks of the orders of clocks and ports: each lays blocks and draws, and turns nothing. -/
import Derived.Test.YtmjmoihggojpiaaForPlain
import Derived.WalkKit
import Derived.WalkLawsBesides
import Derived.WalkSpells
import Derived.BigQuiet
import Derived.Deep.QuietTactic
import Derived.Lib.Hide
import Derived.KernelRfl
import Derived.Below
import Derived.Sort.Grow
import Derived.Deep.Draws
import Derived.Deep.MidRow
import Derived.Test.YtmjmoihggojpiaaHeldUntil
import Derived.Deep.DrawnRows
set_option linter.unusedSimpArgs false
set_option linter.unusedVariables false
namespace Go.Proofs.Ytmjmoihggojpiaa
open Go.RowKit Go.Sort

/-- Blocks laid and orders drawn, and nothing else. -/
def Gr (W W' : World) : Prop := ∃ q os, W' = grow (W.drewN q) os
theorem Gr.refl (W : World) : Gr W W := ⟨0, #[], by rw [grow_empty]; rfl⟩
theorem drewN_grow (W : World) (os : Array Obj) (q : Nat) : (grow W os).drewN q = grow (W.drewN q) os := rfl
theorem Gr.trans {a b c : World} (h : Gr a b) (k : Gr b c) : Gr a c := by
  obtain ⟨q, os, rfl⟩ := h
  obtain ⟨q', os', rfl⟩ := k
  exact ⟨q + q', os ++ os', by rw [drewN_grow, World.drewN_drewN, grow_grow]⟩
theorem Gr.alloc {a b : World} (h : Gr a b) (o : Obj) : Gr a (b.alloc o) := h.trans ⟨0, #[o], by rw [alloc_eq_grow]; rfl⟩
theorem Gr.drewN {a b : World} (h : Gr a b) (n : Nat) : Gr a (b.drewN n) := h.trans ⟨n, #[], by simp⟩
theorem Gr.below {a b : World} (h : Gr a b) : Below a.heap.size a b := by
  obtain ⟨q, os, rfl⟩ := h
  refine ⟨rfl, rfl, rfl, by simp [grow, World.drewN], fun k hk => ?_⟩
  simp [grow, World.drewN, Array.getElem?_append, hk]

theorem cell_gr {W W' : World} (h : Gr W W') {a : Addr} {v : Value} (hc : W.cell? a = some v) : W'.cell? a = some v := (h.below.cell (World.block_lt_of_cell? W a hc)).trans hc
theorem rangeAt_gr {W W' : World} (h : Gr W W') {b o : Nat} {cs : List Value} (hc : W.rangeAt b o cs) : W'.rangeAt b o cs := fun j v hv => cell_gr h (hc j v hv)
theorem cells_two (w : World) (x y : Value) (t : TypeId) : (w.alloc (.cells #[x, y] t)).cell? ⟨w.heap.size, 0, none⟩ = some x ∧ (w.alloc (.cells #[x, y] t)).cell? ⟨w.heap.size, 1, none⟩ = some y := ⟨by go_simp, by go_simp⟩
theorem nanInt_t (x : Int) (w : World) : Calls Try.prog 49 #[.int .i64 x] w fun e w' => e = .returned (.bool false) ∧ w = w' := by
  go_enter Try.func49, Try.ntmps49
  go_wp2_with fail
  go_ret
  exact ⟨rfl, rfl⟩
theorem nanByte_t (x : Int) (w : World) : Calls Try.prog 61 #[.int .u8 x] w fun e w' => e = .returned (.bool false) ∧ w = w' := by
  go_enter Try.func61, Try.ntmps61
  go_wp2_with fail
  go_ret
  exact ⟨rfl, rfl⟩
theorem cmpInt_t (x y : Int) (w : World) : Calls Try.prog 43 #[.int .i64 x, .int .i64 y] w fun e w' => e = .returned (.int .i64 (cmp1 x y)) ∧ w = w' := by
  unfold cmp1
  by_cases h1 : x < y
  · rw [if_pos h1]
    have z1 : decide (x < y) = true := decide_eq_true h1
    clear h1
    go_enter Try.func43, Try.ntmps43
    go_wp2_with fail
    refine (nanInt_t _ _).mono ?_; rintro e w' ⟨rfl, rfl⟩
    go_wp2_with fail
    refine (nanInt_t _ _).mono ?_; rintro e w' ⟨rfl, rfl⟩
    go_wp2_with fail
    go_ret
    exact ⟨rfl, rfl⟩
  · rw [if_neg h1]
    have z1 : decide (x < y) = false := decide_eq_false h1
    clear h1
    by_cases h2 : y < x
    · rw [if_pos h2]
      have z2 : decide (y < x) = true := decide_eq_true h2
      clear h2
      go_enter Try.func43, Try.ntmps43
      go_wp2_with fail
      refine (nanInt_t _ _).mono ?_; rintro e w' ⟨rfl, rfl⟩
      go_wp2_with fail
      refine (nanInt_t _ _).mono ?_; rintro e w' ⟨rfl, rfl⟩
      go_wp2_with fail
      go_ret
      exact ⟨rfl, rfl⟩
    · rw [if_neg h2]
      have z2 : decide (y < x) = false := decide_eq_false h2
      clear h2
      go_enter Try.func43, Try.ntmps43
      go_wp2_with fail
      refine (nanInt_t _ _).mono ?_; rintro e w' ⟨rfl, rfl⟩
      go_wp2_with fail
      refine (nanInt_t _ _).mono ?_; rintro e w' ⟨rfl, rfl⟩
      go_wp2_with fail
      go_ret
      exact ⟨rfl, rfl⟩
theorem cmpByte_t (x y : Int) (w : World) : Calls Try.prog 48 #[.int .u8 x, .int .u8 y] w fun e w' => e = .returned (.int .i64 (cmp1 x y)) ∧ w = w' := by
  unfold cmp1
  by_cases h1 : x < y
  · rw [if_pos h1]
    have z1 : decide (x < y) = true := decide_eq_true h1
    clear h1
    go_enter Try.func48, Try.ntmps48
    go_wp2_with fail
    refine (nanByte_t _ _).mono ?_; rintro e w' ⟨rfl, rfl⟩
    go_wp2_with fail
    refine (nanByte_t _ _).mono ?_; rintro e w' ⟨rfl, rfl⟩
    go_wp2_with fail
    go_ret
    exact ⟨rfl, rfl⟩
  · rw [if_neg h1]
    have z1 : decide (x < y) = false := decide_eq_false h1
    clear h1
    by_cases h2 : y < x
    · rw [if_pos h2]
      have z2 : decide (y < x) = true := decide_eq_true h2
      clear h2
      go_enter Try.func48, Try.ntmps48
      go_wp2_with fail
      refine (nanByte_t _ _).mono ?_; rintro e w' ⟨rfl, rfl⟩
      go_wp2_with fail
      refine (nanByte_t _ _).mono ?_; rintro e w' ⟨rfl, rfl⟩
      go_wp2_with fail
      go_ret
      exact ⟨rfl, rfl⟩
    · rw [if_neg h2]
      have z2 : decide (y < x) = false := decide_eq_false h2
      clear h2
      go_enter Try.func48, Try.ntmps48
      go_wp2_with fail
      refine (nanByte_t _ _).mono ?_; rintro e w' ⟨rfl, rfl⟩
      go_wp2_with fail
      refine (nanByte_t _ _).mono ?_; rintro e w' ⟨rfl, rfl⟩
      go_wp2_with fail
      go_ret
      exact ⟨rfl, rfl⟩

/-- The first of two numbers that is not nought. -/
theorem or_t (x y : Int) (b : Nat) (w : World) (c0 : w.cell? ⟨b, 0, none⟩ = some (.int .i64 x)) (c1 : w.cell? ⟨b, 1, none⟩ = some (.int .i64 y)) :
    Calls Try.prog 41 #[.slice (some ⟨b, 0, none⟩) 2 2] w fun e w' => e = .returned (.int .i64 (if x = 0 then y else x)) ∧ w = w' := by
  by_cases h1 : x = 0
  · rw [if_pos h1]
    subst h1
    by_cases h2 : y = 0
    · subst h2
      go_enter Try.func41, Try.ntmps41
      go_wp2_with fail
      refine wp_loop_rounds 3 ?_
      rw [rounds_succ]
      go_wp2_with fail
      rw [rounds_succ]
      go_wp2_with fail
      rw [rounds_succ]
      go_wp2_with fail
      go_ret
      exact ⟨rfl, rfl⟩
    · have z2 : (y != 0) = true := by rw [bne_iff_ne]; exact h2
      clear h2
      go_enter Try.func41, Try.ntmps41
      go_wp2_with fail
      refine wp_loop_rounds 2 ?_
      rw [rounds_succ]
      go_wp2_with fail
      rw [rounds_succ]
      go_wp2_with fail
      go_ret
      exact ⟨rfl, rfl⟩
  · rw [if_neg h1]
    have z2 : (x != 0) = true := by rw [bne_iff_ne]; exact h1
    clear h1
    go_enter Try.func41, Try.ntmps41
    go_wp2_with fail
    refine wp_loop_rounds 1 ?_
    rw [rounds_succ]
    go_wp2_with fail
    go_ret
    exact ⟨rfl, rfl⟩

theorem quiet_left {P : Program} {f : FuncId} {args : Array Value} {w : World} {n : Nat} {v : Value}
    (h : Calls P f args (w.drewN n) fun e w' => e = .returned v ∧ w.drewN n = w') : Calls P f args (w.drewN n) fun e w' => e = .returned v ∧ ∃ m, w' = w.drewN m :=
  h.mono fun _ _ ⟨he, hm⟩ => ⟨he, n, hm.symm⟩
theorem quiet_add_left {P : Program} {f : FuncId} {args : Array Value} {w : World} {a n : Nat} {v : Value}
    (h : Calls P f args (w.drewN (a + n)) fun e w' => e = .returned v ∧ w.drewN (a + n) = w') :
    Calls P f args (w.drewN (a + n)) fun e w'' => e = .returned v ∧ ∃ m, w'' = w.drewN (a + m) :=
  h.mono fun _ _ ⟨he, hm⟩ => ⟨he, n, hm.symm⟩
theorem heads_succ {a b : List Int} {k : Nat} (h : ∀ j, j < k → a.getD j 0 = b.getD j 0) (e : a.getD k 0 = b.getD k 0) : Hid (∀ j, j < k + 1 → a.getD j 0 = b.getD j 0) := fun j hj => by
  by_cases hjk : j = k
  · subst hjk; exact e
  · exact h j (by omega)
theorem cmpL_at (a b : List Int) (k : Nat) (h : ∀ j, j < k → a.getD j 0 = b.getD j 0) (ha : k < a.length) (hb : k < b.length) (hne : a.getD k 0 ≠ b.getD k 0) : cmpL a b = cmp1 (a.getD k 0) (b.getD k 0) := by
  induction k generalizing a b with
  | zero => cases a with
    | nil => simp at ha
    | cons x xs => cases b with
      | nil => simp at hb
      | cons y ys =>
        simp only [List.getD_cons_zero] at hne ⊢
        unfold cmpL cmp1
        split
        · rfl
        · split
          · rfl
          · omega
  | succ k ih => cases a with
    | nil => simp at ha
    | cons x xs => cases b with
      | nil => simp at hb
      | cons y ys =>
        have h0 := h 0 (by omega)
        simp only [List.getD_cons_zero] at h0
        subst h0
        have := ih xs ys (fun j hj => by have := h (j + 1) (by omega); simpa using this) (by simpa using ha) (by simpa using hb) (by simpa using hne)
        simpa [cmpL] using this
theorem cmpL_none (a b : List Int) (hl : a.length = b.length) (h : ∀ j, j < a.length → a.getD j 0 = b.getD j 0) : cmpL a b = 0 := by
  have : a = b := List.ext_getElem hl fun i h1 h2 => by
    have := h i h1
    rw [List.getD_eq_getElem?_getD, List.getD_eq_getElem?_getD, List.getElem?_eq_getElem h1, List.getElem?_eq_getElem h2] at this
    simpa using this
  rw [this]; exact cmpL_self b

/-- A clock's eight bytes. -/
def encC (l : List Int) : List Value := l.map (Value.int .u8)

set_option maxHeartbeats 1000000 in
/-- The order of two clocks. -/
theorem compare_t (a b : List Int) (ha : a.length = 8) (hb : b.length = 8) (w : World) :
    Calls Try.prog 42 #[.agg (encC a).toArray, .agg (encC b).toArray] w fun e w' => e = .returned (.int .i64 (cmpL a b)) ∧ Gr w w' := by
  obtain ⟨W, hW⟩ : ∃ W, W = (w.alloc (.cells (encC a).toArray 23)).alloc (.cells (encC b).toArray 23) := ⟨_, rfl⟩
  have rd : ∀ (l : List Int) (i : Nat), i < l.length → (encC l).toArray[i]? = some (.int .u8 (l.getD i 0)) := fun l i h => by
    simp [encC, List.getElem?_eq_getElem h, List.getD_eq_getElem?_getD]
  have ca : Hid (∀ i, i < 8 → W.cell? ⟨w.heap.size, i, none⟩ = some (.int .u8 (a.getD i 0))) := fun i hi => by
    rw [hW, World.cell?_alloc_past _ _ _ (by simp), World.cell?_alloc_new]
    exact rd a i (by omega)
  have cb : Hid (∀ i, i < 8 → W.cell? ⟨w.heap.size + 1, i, none⟩ = some (.int .u8 (b.getD i 0))) := fun i hi => by
    rw [hW]
    have := World.cell?_alloc_new (w.alloc (.cells (encC a).toArray 23)) (encC b).toArray 23 i
    rw [World.size_alloc] at this
    rw [this]
    exact rd b i (by omega)
  have hg : Hid (Gr w W) := by rw [hW]; exact ((Gr.refl w).alloc _).alloc _
  have HW := Lib.hid hW
  clear hW rd
  go_enter Try.func42, Try.ntmps42
  go_wp2_with fail
  rw [← HW.out]
  clear HW
  go_loopw [6] (fun i wr => ∃ k : Nat, k ≤ 8 ∧ i = .int .i64 k ∧ Hid (∀ j, j < k → a.getD j 0 = b.getD j 0) ∧ Hid (Gr W wr)) (fun i _ => 8 - (intOf i).toNat)
  case atStart => exact ⟨0, by omega, rfl, fun j hj => by omega, Gr.refl W⟩
  case round =>
    obtain ⟨k, hk, rfl, he, hgr⟩ := hrel
    by_cases hlt : k < 8
    · have lW : w.heap.size + 1 < W.heap.size := World.block_lt_of_cell? W _ (cb.out 0 (by omega))
      have c1 := (hgr.out.below.cell (p := ⟨w.heap.size, k, none⟩) (by show w.heap.size < _; omega)).trans (ca.out k hlt)
      have c2 := (hgr.out.below.cell (p := ⟨w.heap.size + 1, k, none⟩) (by show w.heap.size + 1 < _; omega)).trans (cb.out k hlt)
      obtain ⟨x, hx⟩ : ∃ x, x = a.getD k 0 := ⟨_, rfl⟩
      obtain ⟨y, hy⟩ : ∃ y, y = b.getD k 0 := ⟨_, rfl⟩
      rw [← hx] at c1
      rw [← hy] at c2
      have HX := Lib.hid hx
      have HY := Lib.hid hy
      clear hx hy
      have k0 : (0 : Int) ≤ (k : Int) := by omega
      have k1 : (k : Int) < 8 := by omega
      by_cases hxy : x = y
      · have q1 : (x != y) = false := by rw [hxy]; simp
        have HE := Lib.hid hxy
        clear hxy
        go_wp2_with fail
        go_quiet (fail)
        go_wp2_with fail
        go_roundw
        case rel => exact ⟨k + 1, by omega, by go_num, heads_succ he.out (by rw [← HX.out, ← HY.out]; exact HE.out), hgr.out.drewN _⟩
        case measure => simp [intOf]; omega
      · have q1 : (x != y) = true := by rw [bne_iff_ne]; exact hxy
        have HC : Hid (cmpL a b = cmp1 x y) := by
          rw [HX.out, HY.out]
          exact cmpL_at a b k he.out (by omega) (by omega) (by rw [← HX.out, ← HY.out]; exact hxy)
        clear hxy
        go_wp2_with fail
        go_quiet (fail)
        go_wp2_with fail
        go_quiet ((go_at_call 48; exact quiet_add_left (cmpByte_t _ _ _)))
        go_wp2_with fail
        go_ret
        exact ⟨by rw [HC.out]; rfl, hg.out.trans ((hgr.out.drewN _).drewN _)⟩
    · obtain rfl : k = 8 := by omega
      have HC : Hid (cmpL a b = 0) := cmpL_none a b (by omega) (fun j hj => he.out j (by omega))
      go_wp2_with fail
      go_ret
      exact ⟨by rw [HC.out]; rfl, hg.out.trans hgr.out⟩

set_option maxHeartbeats 2000000 in
attribute [local go_sem ↓] Go.wp_at_zero Go.wp_at_succ in
/-- The order of two ports. -/
theorem ports_t (p q : Pt) (w : World) : Calls Try.prog 35 #[.agg (encP p).toArray, .agg (encP q).toArray] w fun e w' => e = .returned (.int .i64 (cmpP p q)) ∧ Gr w w' := by
  obtain ⟨W, hW⟩ : ∃ W, W = (w.alloc (.cells (encP p).toArray 29)).alloc (.cells (encP q).toArray 29) := ⟨_, rfl⟩
  have HG : Hid (Gr w W) := by rw [hW]; exact ((Gr.refl w).alloc _).alloc _
  have ra : Hid (W.rangeAt w.heap.size 0 (encC p.clock) ∧ W.cell? ⟨w.heap.size, 8, none⟩ = some (.int .i64 p.n) ∧ W.rangeAt (w.heap.size + 1) 0 (encC q.clock) ∧ W.cell? ⟨w.heap.size + 1, 8, none⟩ = some (.int .i64 q.n)) := by
    rw [hW]
    refine ⟨fun j v hv => ?_, by go_simp, fun j v hv => ?_, by go_simp⟩
    · have : j < 8 := by have := (List.getElem?_eq_some_iff.1 hv).1; simpa [encC, Pt.clock] using this
      obtain rfl | rfl | rfl | rfl | rfl | rfl | rfl | rfl : j = 0 ∨ j = 1 ∨ j = 2 ∨ j = 3 ∨ j = 4 ∨ j = 5 ∨ j = 6 ∨ j = 7 := by omega
      all_goals (simp [encC, Pt.clock] at hv; subst hv; go_simp)
    · have : j < 8 := by have := (List.getElem?_eq_some_iff.1 hv).1; simpa [encC, Pt.clock] using this
      obtain rfl | rfl | rfl | rfl | rfl | rfl | rfl | rfl : j = 0 ∨ j = 1 ∨ j = 2 ∨ j = 3 ∨ j = 4 ∨ j = 5 ∨ j = 6 ∨ j = 7 := by omega
      all_goals (simp [encC, Pt.clock] at hv; subst hv; go_simp)
  have HW := Lib.hid hW
  clear hW
  go_enter Try.func35, Try.ntmps35
  go_wp2_with fail
  rw [← HW.out]
  clear HW
  have lq : w.heap.size + 1 < W.heap.size := World.block_lt_of_cell? W _ ra.out.2.2.2
  refine wp_region_until (S := fun w' => Gr W w') (B := [0, 2, 5, 7]) (by kernel_rfl) ?_
  refine wpAnyU_takeB (i := 0) (v := .pointer (some ⟨w.heap.size, 0, none⟩)) rfl (by kernel_rfl) (by kernel_rfl) (by kernel_rfl) (by kernel_rfl) (fun _ _ _ h => h) (Or.inl ⟨by rfl, fun w => by go_simp⟩) ?_
  try simp only [Act.put, List.getElem_toArray, List.getElem_cons_succ, List.getElem_cons_zero, List.setIfInBounds_toArray, List.set_cons_zero, List.set_cons_succ]
  refine wpAnyU_takeB (i := 2) (v := .pointer (some ⟨w.heap.size + 1, 0, none⟩)) rfl (by kernel_rfl) (by kernel_rfl) (by kernel_rfl) (by kernel_rfl) (fun _ _ _ h => h) (Or.inl ⟨by rfl, fun w => by go_simp⟩) ?_
  try simp only [Act.put, List.getElem_toArray, List.getElem_cons_succ, List.getElem_cons_zero, List.setIfInBounds_toArray, List.set_cons_zero, List.set_cons_succ]
  refine wpAnyU_takeB (i := 5) (v := .pointer (some ⟨w.heap.size, 8, none⟩)) rfl (by kernel_rfl) (by kernel_rfl) (by kernel_rfl) (by kernel_rfl) (fun _ _ _ h => h) (Or.inl ⟨by rfl, fun w => by go_simp⟩) ?_
  try simp only [Act.put, List.getElem_toArray, List.getElem_cons_succ, List.getElem_cons_zero, List.setIfInBounds_toArray, List.set_cons_zero, List.set_cons_succ]
  refine wpAnyU_takeB (i := 7) (v := .pointer (some ⟨w.heap.size + 1, 8, none⟩)) rfl (by kernel_rfl) (by kernel_rfl) (by kernel_rfl) (by kernel_rfl) (fun _ _ _ h => h) (Or.inl ⟨by rfl, fun w => by go_simp⟩) ?_
  try simp only [Act.put, List.getElem_toArray, List.getElem_cons_succ, List.getElem_cons_zero, List.setIfInBounds_toArray, List.set_cons_zero, List.set_cons_succ]
  refine wpAnyU_take (i := 1) (v := .agg (encC p.clock).toArray) rfl (by kernel_rfl) (by kernel_rfl) (by kernel_rfl) (by kernel_rfl) (fun _ _ _ h => h) ((Gr.refl W).drewN 1) (yieldsIf_load_mid (by rfl) 23 (.tmp 5) rfl w.heap.size 0 rfl (encC p.clock) _ (fun w hw => (rangeAt_gr hw ra.out.1)) Try.underlying23 rfl (by kernel_rfl)) ?_
  try simp only [Act.put, List.getElem_toArray, List.getElem_cons_succ, List.getElem_cons_zero, List.setIfInBounds_toArray, List.set_cons_zero, List.set_cons_succ]
  refine wpAnyU_take (i := 3) (v := .agg (encC q.clock).toArray) rfl (by kernel_rfl) (by kernel_rfl) (by kernel_rfl) (by kernel_rfl) (fun _ _ _ h => h) ((Gr.refl W).drewN 1) (yieldsIf_load_mid (by rfl) 23 (.tmp 7) rfl (w.heap.size + 1) 0 rfl (encC q.clock) _ (fun w hw => (rangeAt_gr hw ra.out.2.2.1)) Try.underlying23 rfl (by kernel_rfl)) ?_
  try simp only [Act.put, List.getElem_toArray, List.getElem_cons_succ, List.getElem_cons_zero, List.setIfInBounds_toArray, List.set_cons_zero, List.set_cons_succ]
  refine wpAnyU_take (i := 6) (v := .int .i64 p.n) rfl (by kernel_rfl) (by kernel_rfl) (by kernel_rfl) (by kernel_rfl) (fun _ _ _ h => h) ((Gr.refl W).drewN 1) (Or.inl ⟨by rfl, fun w hw => by have h8 := cell_gr hw ra.out.2.1; go_simp⟩) ?_
  try simp only [Act.put, List.getElem_toArray, List.getElem_cons_succ, List.getElem_cons_zero, List.setIfInBounds_toArray, List.set_cons_zero, List.set_cons_succ]
  refine wpAnyU_take (i := 8) (v := .int .i64 q.n) rfl (by kernel_rfl) (by kernel_rfl) (by kernel_rfl) (by kernel_rfl) (fun _ _ _ h => h) ((Gr.refl W).drewN 1) (Or.inl ⟨by rfl, fun w hw => by have h8 := cell_gr hw ra.out.2.2.2; go_simp⟩) ?_
  try simp only [Act.put, List.getElem_toArray, List.getElem_cons_succ, List.getElem_cons_zero, List.setIfInBounds_toArray, List.set_cons_zero, List.set_cons_succ]
  refine wpAnyU_all (rs := [4]) (by kernel_rfl) (by simp) (all1 ?_)
  refine wpOpU_step rfl (fun K' hK => ?_)
  go_simp
  refine (compare_t _ _ rfl rfl _).mono ?_
  rintro e w1 ⟨rfl, hg1⟩
  have G1 := Lib.hid (((Gr.refl W).drewN 1).trans hg1)
  clear hg1
  try go_simp
  refine hK _ _ G1.out ?_
  clear hK K'
  try simp only [Act.put, List.getElem_toArray, List.getElem_cons_succ, List.getElem_cons_zero, List.setIfInBounds_toArray, List.set_cons_zero, List.set_cons_succ]
  refine wpAnyU_all (rs := [9]) (by kernel_rfl) (by simp) (all1 ?_)
  refine wpOpU_step rfl (fun K' hK => ?_)
  go_simp
  refine (cmpInt_t _ _ _).mono ?_
  rintro e w2 ⟨rfl, rfl⟩
  try go_simp
  refine hK _ _ G1.out ?_
  clear hK K'
  try simp only [Act.put, List.getElem_toArray, List.getElem_cons_succ, List.getElem_cons_zero, List.setIfInBounds_toArray, List.set_cons_zero, List.set_cons_succ]
  refine wpAnyU_all (rs := [10]) (by kernel_rfl) (by simp) (all1 ?_)
  refine wpOpU_step rfl (fun K' hK => ?_)
  go_simp
  have HS := Lib.hid (cells_two w1 (.int .i64 (cmpL p.clock q.clock)) (.int .i64 (cmp1 p.n q.n)) 3)
  have G2 := Lib.hid (G1.out.alloc (.cells #[.int .i64 (cmpL p.clock q.clock), .int .i64 (cmp1 p.n q.n)] 3))
  obtain ⟨g, hg⟩ : ∃ g, g = w1.heap.size := ⟨_, rfl⟩
  rw [← hg] at HS ⊢
  generalize w1.alloc (.cells #[.int .i64 (cmpL p.clock q.clock), .int .i64 (cmp1 p.n q.n)] 3) = w3 at HS G2 ⊢
  clear hg
  refine hK _ _ G2.out ?_
  clear hK K' G1
  try simp only [Act.put, List.getElem_toArray, List.getElem_cons_succ, List.getElem_cons_zero, List.setIfInBounds_toArray, List.set_cons_zero, List.set_cons_succ]
  refine wpAnyU_all (rs := [11]) (by kernel_rfl) (by simp) (all1 ?_)
  refine wpOpU_step rfl (fun K' hK => ?_)
  go_simp
  have CO := or_t _ _ g _ HS.out.1 HS.out.2
  rw [← cmpP_or] at CO
  refine CO.mono ?_
  clear CO
  rintro e w4 ⟨rfl, rfl⟩
  try go_simp
  refine hK _ _ G2.out ?_
  clear hK K'
  try simp only [Act.put, List.getElem_toArray, List.getElem_cons_succ, List.getElem_cons_zero, List.setIfInBounds_toArray, List.set_cons_zero, List.set_cons_succ]
  refine wpAnyU_all (rs := [12]) (by kernel_rfl) (by simp) (all1 ?_)
  refine wpOpU_step rfl (fun K' hK => ?_)
  go_simp
  refine hK _ _ G2.out ?_
  clear hK K'
  try simp only [Act.put, List.getElem_toArray, List.getElem_cons_succ, List.getElem_cons_zero, List.setIfInBounds_toArray, List.set_cons_zero, List.set_cons_succ]
  refine wpAnyU_done (by kernel_rfl) ?_ _
  go_wp2_with fail
  go_ret
  exact ⟨rfl, HG.out.trans G2.out⟩
end Go.Proofs.Ytmjmoihggojpiaa
