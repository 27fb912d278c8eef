/- The walk of (*Table).Hear, where its sender is new. -/
import Derived.Test.YtmjmoihggojpiaaForHearB
set_option linter.unusedSimpArgs false
set_option linter.unusedVariables false
namespace Go.Proofs.Ytmjmoihggojpiaa
open Go Go.Maps Go.RowKit Go.Shelf Go.Sort Go.Lib

def zeroS : St := ⟨0, 0, 0, 0, 0, 0, 0, 0, 0, 0, 0, 0, 0, 0, ⟨0, 0, 0, 0, 0, 0, 0, 0, 0⟩, ⟨0, 0, 0, 0, 0, 0, 0, 0, 0⟩⟩

theorem TabAt.ins {base : Nat} {w w' : World} {T : Nat} {own : List Int} {win : Int} {mb : Nat} {l : List (En × Nat)} (h : TabAt base w T own win mb l) (e : En) (g : Nat)
    (hg : g ∉ T :: mb :: l.map (·.2)) (hb0 : base ≤ g) (he : EntAt w' g e ∧ MapIs w' mb ((e.s.sender, g) :: l.map fun x => (keyX x, x.2))) (hb : But [mb] w w') (hn : e.s.sender ∉ l.map keyX) (hfew : l.length < 5)
    (hmany : 1 ≤ e.many ∧ e.many ≤ 2) (ht : 0 ≤ e.t0 ∧ e.t0 ≤ 4611686018427387904) : TabAt base w' T own win mb (Ytmjmoihggojpiaa.ins keyX (e, g) l) := by
  have hap := h.apart
  have hp := ins_perm keyX (e, g) l
  have hmem : ∀ x ∈ Ytmjmoihggojpiaa.ins keyX (e, g) l, x = (e, g) ∨ x ∈ l := fun x hx => mem_ins.1 hx
  simp only [List.nodup_cons, List.mem_cons, not_or] at hap hg
  refine ⟨h.tab.but hb (by simp [hap.1.1]), h.len, he.2.perm ((hp.map fun x => (keyX x, x.2)).symm), fun x hx => ?_, asc_ins keyX (e, g) l h.asc hn, ?_, fun k hk => ?_, ?_, fun x hx => ?_, fun x hx => ?_, h.win_, h.bytes⟩
  · rcases hmem x hx with rfl | hx
    · exact he.1
    · exact (h.ents x hx).but hb (by simp; intro e'; exact hap.2.1 (by rw [← e']; exact List.mem_map.2 ⟨x, hx, rfl⟩))
  · have : (T :: mb :: (Ytmjmoihggojpiaa.ins keyX (e, g) l).map (·.2)).Perm (T :: mb :: g :: l.map (·.2)) := ((hp.map (·.2)).cons _).cons _
    rw [this.nodup_iff]
    simp only [List.nodup_cons, List.mem_cons, not_or]
    exact ⟨⟨hap.1.1, fun e' => hg.1 e'.symm, hap.1.2⟩, ⟨fun e' => hg.2.1 e'.symm, hap.2.1⟩, hg.2.2, hap.2.2⟩
  · simp only [List.mem_cons, (hp.map (·.2)).mem_iff, List.map_cons] at hk
    rcases hk with rfl | rfl | rfl | hk
    · exact h.from_ _ (by simp)
    · exact h.from_ _ (by simp)
    · exact hb0
    · exact h.from_ _ (by simp only [List.mem_cons]; exact .inr (.inr hk))
  · rw [hp.length_eq]; simp; omega
  · rcases hmem x hx with rfl | hx
    · exact hmany
    · exact h.many x hx
  · rcases hmem x hx with rfl | hx
    · exact ht
    · exact h.times x hx

set_option maxRecDepth 100000 in
set_option maxHeartbeats 8000000 in
theorem hear_new {base : Nat} {w : World} {T : Nat} {own : List Int} {win : Int} {mb : Nat} {l : List (En × Nat)} (h : TabAt base w T own win mb l) (s : St) (hp : s.sender.ok) (now : Int) (hbad : bad own s now = false) (hnx : s.sender ∉ l.map keyX) :
    Calls Try.prog 11 #[.pointer (some ⟨T, 0, none⟩), .agg (encS s).toArray, .int .i64 now] w fun r w' =>
      (l.length < 5 ∧ r = .returned (.int .i64 2) ∧ ∃ g, w.heap.size ≤ g ∧ TabAt base w' T own win mb (ins keyX (⟨s, now, 0, 1⟩, g) l) ∧ But [mb] w w') ∨
      (5 ≤ l.length ∧ over win now (l.map (·.1)) = none ∧ r = .returned (.int .i64 4) ∧ Below w.heap.size w w') ∨
      (5 ≤ l.length ∧ ∃ o, over win now (l.map (·.1)) = some o ∧ r = .returned (.int .i64 3) ∧ ∃ g, w.heap.size ≤ g ∧ TabAt base w' T own win mb (ins keyX (⟨s, now, 0, 1⟩, g) (l.filter fun x => decide (keyX x ≠ o.s.sender))) ∧ But [mb] w w') := by
  obtain ⟨V, hV⟩ : ∃ V, V = w.alloc (.cells (encS s).toArray 31) := ⟨_, rfl⟩
  have hBV : Below w.heap.size w V := by rw [hV]; exact (Below.refl _ w).alloc (Nat.le_refl _) _
  have hTV := h.below hBV (Nat.le_refl _)
  have hbx : Blk V w.heap.size 31 (encS s) := by rw [hV]; exact Blk.new w _ _
  obtain ⟨x0, x1, x2, x3, x4, x5, x6, x7, x8⟩ := nineAt (hbx.range 14 (encP s.sender) (encS_sender s))
  simp only [Nat.reduceAdd] at x1 x2 x3 x4 x5 x6 x7 x8
  have xs : V.cell? ⟨w.heap.size, 13, none⟩ = some (.int .i64 s.steps) := (hbx.cell 13).trans (encS_steps s)
  have c9 := hTV.cmap
  have look : ∀ n, (Instr.lookup 61 (.map (some mb)) (.agg (encP s.sender).toArray) true).run Try.prog (V.drewN n) = .ok (.tuple #[.pointer none, .bool false]) (V.drewN n) := fun n => (hTV.drewN n).miss hp hnx
  have HP := Lib.hid (And.intro hp (And.intro hnx rfl : s.sender ∉ l.map keyX ∧ s.sender = s.sender))
  have hl := h.len
  have hby := h.bytes
  obtain ⟨o0, o1, o2, o3, o4, o5, o6, o7, rfl⟩ := len8 hl
  obtain ⟨y0, y1, y2, y3, y4, y5, y6, y7⟩ := eight_of hTV.rown
  simp only [Nat.reduceAdd] at y1 y2 y3 y4 y5 y6 y7
  have HV := Lib.hid (And.intro hV (And.intro hBV hTV))
  have heq : ∀ v : World, (binOp .eql 23 (.agg #[.int .u8 s.sender.a0, .int .u8 s.sender.a1, .int .u8 s.sender.a2, .int .u8 s.sender.a3, .int .u8 s.sender.a4, .int .u8 s.sender.a5, .int .u8 s.sender.a6, .int .u8 s.sender.a7]) (.agg #[.int .u8 o0, .int .u8 o1, .int .u8 o2, .int .u8 o3, .int .u8 o4, .int .u8 o5, .int .u8 o6, .int .u8 o7])).run Try.prog v = .ok (.bool (decide (s.sender.clock = [o0, o1, o2, o3, o4, o5, o6, o7]))) v := fun v => (eql_clock s.sender ⟨o0, o1, o2, o3, o4, o5, o6, o7, 0⟩ hp.1 hby v).1
  generalize hcl : decide (s.sender.clock = [o0, o1, o2, o3, o4, o5, o6, o7]) = cl at heq
  have HBX := Lib.hid hbx
  have HBmb := Lib.hid (And.intro (h.lt mb (by simp)) (And.intro h.few (fun x hx => h.map_ok x hx : ∀ x ∈ l, (keyX x).ok)))
  clear h hV hBV hTV hbx hl hby hp hnx
  unfold bad at hbad
  rw [decide_eq_false_iff_not] at hbad
  simp only [not_or] at hbad
  obtain ⟨n1, n2, n3, n4, n5⟩ := hbad
  have HNow : Hid (0 ≤ now ∧ now ≤ 4611686018427387904) := ⟨by omega, by omega⟩
  have z1 : decide (now < 0) = false := decide_eq_false n1
  have z2 : decide (4611686018427387904 < now) = false := decide_eq_false n2
  rw [decide_eq_false n3] at hcl
  subst hcl
  have z3 : decide (s.steps < 0) = false := decide_eq_false n4
  have z4 : decide (255 ≤ s.steps) = false := decide_eq_false n5
  clear n1 n2 n3 n4 n5
  obtain ⟨p, hpp⟩ : ∃ p, p = s.sender := ⟨_, rfl⟩
  rw [← hpp] at x0 x1 x2 x3 x4 x5 x6 x7 x8 look heq HP
  have HPP := Lib.hid hpp
  clear hpp
  obtain ⟨st, hst⟩ : ∃ st, st = s.steps := ⟨_, rfl⟩
  rw [← hst] at xs z3 z4
  have HST := Lib.hid hst
  clear hst
  go_enter Try.func11, Try.ntmps11
  go_wp2_with fail
  rw [← HV.out.1]
  go_quiet (fail)
  by_cases hfew : (l.length : Int) < 5
  · have z6 : decide (5 ≤ (l.length : Int)) = false := decide_eq_false (by omega)
    have HLN : Hid (p ∉ l.map keyX ∧ l.length < 5) := ⟨HP.out.2.1, by omega⟩
    have HFEW : Hid (l.length < 5) := (by omega : l.length < 5)
    clear hfew
    go_wp2_with fail
    go_quiet (fail)
    generalize hU : World.drewN (World.drewN V _) _ = U
    have HTU : Hid (TabAt base U T [o0, o1, o2, o3, o4, o5, o6, o7] win mb l) := by rw [← hU]; exact (HV.out.2.2.drewN _).drewN _
    have HBU : Hid (Blk U w.heap.size 31 (encS s)) := by rw [← hU]; exact HBX.out
    have HWU : Hid (But [mb] w U) := by rw [← hU]; exact ((But.of_below HV.out.2.1).drewN _).drewN _
    have HWb : Hid (Below w.heap.size w U) := by rw [← hU]; exact below_drewN (below_drewN HV.out.2.1 _) _
    have c9U := HTU.out.cmap
    have hlU : (Builtin.len_ #[61] 3 #[.map (some mb)]).run Try.prog U = .ok (.int .i64 l.length) U := by
      have := HTU.out.map.len 3
      rwa [List.length_map] at this
    clear hU x0 x1 x2 x3 x4 x5 x6 x7 x8 xs c9 look heq y0 y1 y2 y3 y4 y5 y6 y7 z1 z2 z3 z4
    have HN9 : Hid (U.heap.size ≠ w.heap.size ∧ w.heap.size ≤ U.heap.size) := ⟨by have := Blk.lt HBU.out; omega, HWU.out.size⟩
    have HE0 : Hid (EntAt (U.alloc (.cells (encE ⟨zeroS, 0, 0, 0⟩).toArray 71)) U.heap.size ⟨zeroS, 0, 0, 0⟩) := Blk.new U _ _
    have HB0 : Hid (Blk (U.alloc (.cells (encE ⟨zeroS, 0, 0, 0⟩).toArray 71)) w.heap.size 31 (encS s)) := HBU.out.alloc _
    go_wp2_with (first
      | (refine wpList_load_mid (by rfl) 31 (.tmp 4) (by rfl) w.heap.size 0 (by rfl) (encS s) _ HB0.out.all Try.underlying31 rfl (by kernel_rfl) ?_)
      | (go_at_call 22; refine (heard_t (U.alloc (.cells (encE ⟨zeroS, 0, 0, 0⟩).toArray 71)) U.heap.size ⟨zeroS, 0, 0, 0⟩ s now HE0.out ⟨by decide, by decide⟩).mono ?_; rintro e W ⟨rfl, hEW, hBW⟩))
    have HEW := Lib.hid hEW
    have HBUW : Hid (But [] U W) := ((But.refl [] U).alloc _).trans hBW (fun y hy => by simp at hy; subst hy; exact .inr (Nat.le_refl _))
    have HTW : Hid (TabAt base W T [o0, o1, o2, o3, o4, o5, o6, o7] win mb (l)) := HTU.out.below (HBUW.out.below (Nat.le_refl _) (by simp)) (Nat.le_refl _)
    have HXW : Hid (Blk W w.heap.size 31 (encS s)) := HBU.out.but HBUW.out (by simp)
    have HWW : Hid (But [mb] w W) := HWU.out.trans HBUW.out (by simp)
    clear hEW hBW HE0 HB0
    generalize hg : U.heap.size = g at *
    have HG := Lib.hid hg
    clear hg
    obtain ⟨W1, hW1⟩ : ∃ W1, W1 = W.drew := ⟨_, rfl⟩
    have HW1 := Lib.hid hW1
    have hT1 : TabAt base W1 T [o0, o1, o2, o3, o4, o5, o6, o7] win mb (l) := by rw [hW1]; exact HTW.out.kept fun _ _ => rfl
    have hX1 : Blk W1 w.heap.size 31 (encS s) := by rw [hW1]; exact HXW.out
    have hWW1 : But [mb] w W1 := by rw [hW1]; exact HWW.out.drewN 1
    have hE1 : EntAt W1 g ⟨s, now, 0, 1⟩ := by rw [hW1]; exact HEW.out
    have d9 := hT1.cmap
    obtain ⟨x0, x1, x2, x3, x4, x5, x6, x7, x8⟩ := nineAt (hX1.range 14 (encP s.sender) (encS_sender s))
    simp only [Nat.reduceAdd] at x1 x2 x3 x4 x5 x6 x7 x8
    rw [← HPP.out] at x0 x1 x2 x3 x4 x5 x6 x7 x8
    obtain ⟨W2, hrun, hM2, hg2, hs2⟩ := hT1.map.put HP.out.1 (by simpa using HLN.out.1) g (by rw [List.length_map]; have := HLN.out.2; omega)
    simp only [pv, bp] at hrun
    have hb12 : But [mb] W1 W2 := .of_grown hg2 (by simp)
    have HF : Hid (TabAt base W2 T [o0, o1, o2, o3, o4, o5, o6, o7] win mb (ins keyX (⟨s, now, 0, 1⟩, g) (l)) ∧ But [mb] w W2) := by
      refine ⟨hT1.ins ⟨s, now, 0, 1⟩ g ?_ ?_ ?_ hb12 ?_ HLN.out.2 ⟨by simp, by simp⟩ HNow.out, hWW1.trans' hb12⟩
      · intro hc
        have h1 := HTU.out.lt g hc
        have := HG.out
        omega
      · have h2 : base ≤ U.heap.size := Nat.le_of_lt (Nat.lt_of_le_of_lt (HTU.out.from_ T (by simp)) HTU.out.tab.lt)
        rw [HG.out] at h2
        exact h2
      · exact ⟨hE1.but hb12 (by simp; intro e; have h1 := HTU.out.lt mb (by simp); have := HG.out; omega), by rw [← HPP.out]; exact hM2⟩
      · rw [← HPP.out]; exact HLN.out.1
    clear hW1 hT1 hX1 hWW1 hE1 hM2 hg2 hs2 hb12 HTW HXW HWW HEW HBUW HTU HBU HWU HLN
    refine wp_region_until (S := fun w' => w' = W1) (B := [0, 1, 2, 4, 6, 7]) (by kernel_rfl) ?_
    rw [← HW1.out]
    clear HW1
    refine wpAnyU_takeB (i := 0) (v := .pointer (some ⟨T, 0, none⟩)) rfl (by kernel_rfl) (by kernel_rfl) (by kernel_rfl) (by kernel_rfl) (fun _ _ _ h => h) (Or.inl ⟨by rfl, fun w => by go_simp⟩) ?_
    try simp only [Act.put, List.getElem_toArray, List.getElem_cons_succ, List.getElem_cons_zero, List.setIfInBounds_toArray, List.set_cons_zero, List.set_cons_succ]
    refine wpAnyU_takeB (i := 1) (v := .pointer (some ⟨T, 0, none⟩)) rfl (by kernel_rfl) (by kernel_rfl) (by kernel_rfl) (by kernel_rfl) (fun _ _ _ h => h) (Or.inl ⟨by rfl, fun w => by go_simp⟩) ?_
    try simp only [Act.put, List.getElem_toArray, List.getElem_cons_succ, List.getElem_cons_zero, List.setIfInBounds_toArray, List.set_cons_zero, List.set_cons_succ]
    refine wpAnyU_takeB (i := 2) (v := .pointer (some ⟨T, 9, none⟩)) rfl (by kernel_rfl) (by kernel_rfl) (by kernel_rfl) (by kernel_rfl) (fun _ _ _ h => h) (Or.inl ⟨by rfl, fun w => by go_simp⟩) ?_
    try simp only [Act.put, List.getElem_toArray, List.getElem_cons_succ, List.getElem_cons_zero, List.setIfInBounds_toArray, List.set_cons_zero, List.set_cons_succ]
    refine wpAnyU_takeB (i := 4) (v := .pointer (some ⟨w.heap.size, 14, none⟩)) rfl (by kernel_rfl) (by kernel_rfl) (by kernel_rfl) (by kernel_rfl) (fun _ _ _ h => h) (Or.inl ⟨by rfl, fun w => by go_simp⟩) ?_
    try simp only [Act.put, List.getElem_toArray, List.getElem_cons_succ, List.getElem_cons_zero, List.setIfInBounds_toArray, List.set_cons_zero, List.set_cons_succ]
    refine wpAnyU_takeB (i := 6) (v := .pointer (some ⟨g, 0, none⟩)) rfl (by kernel_rfl) (by kernel_rfl) (by kernel_rfl) (by kernel_rfl) (fun _ _ _ h => h) (Or.inl ⟨by rfl, fun w => by go_simp⟩) ?_
    try simp only [Act.put, List.getElem_toArray, List.getElem_cons_succ, List.getElem_cons_zero, List.setIfInBounds_toArray, List.set_cons_zero, List.set_cons_succ]
    refine wpAnyU_take (i := 3) (v := .map (some mb)) rfl (by kernel_rfl) (by kernel_rfl) (by kernel_rfl) (by kernel_rfl) (fun _ _ _ h => h) rfl (Or.inl ⟨by rfl, fun w hw => by subst hw; go_simp⟩) ?_
    try simp only [Act.put, List.getElem_toArray, List.getElem_cons_succ, List.getElem_cons_zero, List.setIfInBounds_toArray, List.set_cons_zero, List.set_cons_succ]
    refine wpAnyU_take (i := 5) (v := .agg (encP p).toArray) rfl (by kernel_rfl) (by kernel_rfl) (by kernel_rfl) (by kernel_rfl) (fun _ _ _ h => h) rfl (Or.inl ⟨by rfl, fun w hw => by subst hw; go_simp⟩) ?_
    try simp only [Act.put, List.getElem_toArray, List.getElem_cons_succ, List.getElem_cons_zero, List.setIfInBounds_toArray, List.set_cons_zero, List.set_cons_succ]
    refine wpAnyU_all (rs := [7]) (by kernel_rfl) (by simp) (all1 ?_)
    refine wpOpU_stepB rfl (by kernel_rfl) (fun K' hK => ?_)
    go_simp
    refine hK _ _ ?_
    clear hK K'
    try simp only [Act.put, List.getElem_toArray, List.getElem_cons_succ, List.getElem_cons_zero, List.setIfInBounds_toArray, List.set_cons_zero, List.set_cons_succ]
    refine wpAnyU_done (by kernel_rfl) ?_ _
    go_wp2_with fail
    go_ret
    exact .inl ⟨HFEW.out, rfl, g, HN9.out.2, HF.out.1, HF.out.2⟩
  · have z6 : decide (5 ≤ (l.length : Int)) = true := decide_eq_true (by omega)
    have HFEW : Hid (5 ≤ l.length) := (by omega : 5 ≤ l.length)
    clear hfew
    go_wp2_with fail
    go_quiet (fail)
    generalize hU : World.drewN (World.drewN V _) _ = U
    have HTU : Hid (TabAt base U T [o0, o1, o2, o3, o4, o5, o6, o7] win mb l) := by rw [← hU]; exact (HV.out.2.2.drewN _).drewN _
    have HBU : Hid (Blk U w.heap.size 31 (encS s)) := by rw [← hU]; exact HBX.out
    have HWU : Hid (But [mb] w U) := by rw [← hU]; exact ((But.of_below HV.out.2.1).drewN _).drewN _
    have HWb : Hid (Below w.heap.size w U) := by rw [← hU]; exact below_drewN (below_drewN HV.out.2.1 _) _
    have c9U := HTU.out.cmap
    have hlU : (Builtin.len_ #[61] 3 #[.map (some mb)]).run Try.prog U = .ok (.int .i64 l.length) U := by
      have := HTU.out.map.len 3
      rwa [List.length_map] at this
    clear hU x0 x1 x2 x3 x4 x5 x6 x7 x8 xs c9 look heq y0 y1 y2 y3 y4 y5 y6 y7 z1 z2 z3 z4
    go_wp2_with fail
    refine (over_t HTU.out (by intro e; have := HFEW.out; rw [e] at this; simp at this) now HNow.out.1 HNow.out.2).mono ?_
    rintro e Y ⟨⟨hov, rfl⟩ | ⟨o, ho, hov, rfl⟩, hBY⟩
    · have HOV := Lib.hid hov
      have HBY : Hid (Below w.heap.size w Y) := HWb.out.trans (hBY.mono HWU.out.size)
      clear hov hBY hlU c9U
      go_wp2_with fail
      go_ret
      exact .inr (.inl ⟨HFEW.out, HOV.out, rfl, HBY.out.alloc HBY.out.size _⟩)
    · have HOV := Lib.hid (And.intro hov ho)
      obtain ⟨Z, hZ⟩ : ∃ Z, Z = Y.alloc (.cells (encP (keyX o)).toArray 29) := ⟨_, rfl⟩
      have hBZ : Below U.heap.size U Z := by rw [hZ]; exact hBY.alloc hBY.size _
      have HTZ : Hid (TabAt base Z T [o0, o1, o2, o3, o4, o5, o6, o7] win mb l) := HTU.out.below hBZ (Nat.le_refl _)
      have HBZ : Hid (Blk Z w.heap.size 31 (encS s)) := HBU.out.below hBZ HBU.out.lt
      have HWZ : Hid (But [mb] w Z) := HWU.out.trans' (.of_below hBZ)
      have HOZ : Hid (Z.heap[Y.heap.size]? = some (.cells (encP (keyX o)).toArray 29 (0, 0))) := by rw [hZ]; exact World.alloc_heap_new Y _
      have HOK : Hid ((keyX o).ok) := HBmb.out.2.2 o ho
      have HZ := Lib.hid hZ
      clear hov ho hBY hZ hBZ hlU c9U HTU HBU HWU
      go_wp2_with fail
      rw [← HZ.out]
      clear HZ
      obtain ⟨D1, hD1⟩ : ∃ D1, D1 = Z.drew := ⟨_, rfl⟩
      have HD1 := Lib.hid hD1
      have hT1 : TabAt base D1 T [o0, o1, o2, o3, o4, o5, o6, o7] win mb l := by rw [hD1]; exact HTZ.out.kept fun _ _ => rfl
      have hX1 : Blk D1 w.heap.size 31 (encS s) := by rw [hD1]; exact HBZ.out
      have hW1 : But [mb] w D1 := by rw [hD1]; exact HWZ.out.drewN 1
      have d9 := hT1.cmap
      obtain ⟨x0, x1, x2, x3, x4, x5, x6, x7, x8⟩ : Nine D1 Y.heap.size (keyX o) := by rw [hD1]; exact nine_cells HOZ.out
      obtain ⟨U, hrun, hM2, hg2, hs2⟩ := hT1.map.drop HOK.out 0
      simp only [pv] at hrun
      have hb12 : But [mb] D1 U := .of_grown hg2 (by simp)
      have HTU : Hid (TabAt base U T [o0, o1, o2, o3, o4, o5, o6, o7] win mb (l.filter fun x => decide (keyX x ≠ keyX o))) := hT1.drop (keyX o) hM2 hb12
      have HBU : Hid (Blk U w.heap.size 31 (encS s)) := hX1.but hb12 (by simp; intro e; have h1 := HBmb.out.1; omega)
      have HWU : Hid (But [mb] w U) := hW1.trans' hb12
      clear hD1 hT1 hX1 hW1 hM2 hg2 hs2 hb12 HTZ HBZ HWZ HOZ
      generalize hko : keyX o = ko at *
      have HKO := Lib.hid hko
      clear hko
      refine wp_region_until (S := fun w' => w' = D1) (B := [0, 1, 2, 5]) (by kernel_rfl) ?_
      rw [← HD1.out]
      clear HD1
      refine wpAnyU_takeB (i := 0) (v := .pointer (some ⟨T, 0, none⟩)) rfl (by kernel_rfl) (by kernel_rfl) (by kernel_rfl) (by kernel_rfl) (fun _ _ _ h => h) (Or.inl ⟨by rfl, fun w => by go_simp⟩) ?_
      try simp only [Act.put, List.getElem_toArray, List.getElem_cons_succ, List.getElem_cons_zero, List.setIfInBounds_toArray, List.set_cons_zero, List.set_cons_succ]
      refine wpAnyU_takeB (i := 1) (v := .pointer (some ⟨T, 0, none⟩)) rfl (by kernel_rfl) (by kernel_rfl) (by kernel_rfl) (by kernel_rfl) (fun _ _ _ h => h) (Or.inl ⟨by rfl, fun w => by go_simp⟩) ?_
      try simp only [Act.put, List.getElem_toArray, List.getElem_cons_succ, List.getElem_cons_zero, List.setIfInBounds_toArray, List.set_cons_zero, List.set_cons_succ]
      refine wpAnyU_takeB (i := 2) (v := .pointer (some ⟨T, 9, none⟩)) rfl (by kernel_rfl) (by kernel_rfl) (by kernel_rfl) (by kernel_rfl) (fun _ _ _ h => h) (Or.inl ⟨by rfl, fun w => by go_simp⟩) ?_
      try simp only [Act.put, List.getElem_toArray, List.getElem_cons_succ, List.getElem_cons_zero, List.setIfInBounds_toArray, List.set_cons_zero, List.set_cons_succ]
      refine wpAnyU_take (i := 3) (v := .map (some mb)) rfl (by kernel_rfl) (by kernel_rfl) (by kernel_rfl) (by kernel_rfl) (fun _ _ _ h => h) rfl (Or.inl ⟨by rfl, fun w hw => by subst hw; go_simp⟩) ?_
      try simp only [Act.put, List.getElem_toArray, List.getElem_cons_succ, List.getElem_cons_zero, List.setIfInBounds_toArray, List.set_cons_zero, List.set_cons_succ]
      refine wpAnyU_take (i := 4) (v := .agg (encP ko).toArray) rfl (by kernel_rfl) (by kernel_rfl) (by kernel_rfl) (by kernel_rfl) (fun _ _ _ h => h) rfl (Or.inl ⟨by rfl, fun w hw => by subst hw; go_simp⟩) ?_
      try simp only [Act.put, List.getElem_toArray, List.getElem_cons_succ, List.getElem_cons_zero, List.setIfInBounds_toArray, List.set_cons_zero, List.set_cons_succ]
      refine wpAnyU_all (rs := [5]) (by kernel_rfl) (by simp) (all1 ?_)
      refine wpOpU_stepB rfl (by kernel_rfl) (fun K' hK => ?_)
      go_simp
      refine hK _ _ ?_
      clear hK K'
      try simp only [Act.put, List.getElem_toArray, List.getElem_cons_succ, List.getElem_cons_zero, List.setIfInBounds_toArray, List.set_cons_zero, List.set_cons_succ]
      refine wpAnyU_done (by kernel_rfl) ?_ _
      clear d9 x0 x1 x2 x3 x4 x5 x6 x7 x8 hrun
      have HLN : Hid (p ∉ (l.filter fun x => decide (keyX x ≠ ko)).map keyX ∧ (l.filter fun x => decide (keyX x ≠ ko)).length < 5) := by
        refine ⟨fun hm => HP.out.2.1 (((List.filter_sublist.map _).mem) hm), Nat.lt_of_lt_of_le (List.length_filter_lt_length_iff_exists.2 ⟨o, HOV.out.2, ?_⟩) HBmb.out.2.1⟩
        rw [HKO.out]; simp
      have HN9 : Hid (U.heap.size ≠ w.heap.size ∧ w.heap.size ≤ U.heap.size) := ⟨by have := Blk.lt HBU.out; omega, HWU.out.size⟩
      have HE0 : Hid (EntAt (U.alloc (.cells (encE ⟨zeroS, 0, 0, 0⟩).toArray 71)) U.heap.size ⟨zeroS, 0, 0, 0⟩) := Blk.new U _ _
      have HB0 : Hid (Blk (U.alloc (.cells (encE ⟨zeroS, 0, 0, 0⟩).toArray 71)) w.heap.size 31 (encS s)) := HBU.out.alloc _
      go_wp2_with (first
        | (refine wpList_load_mid (by rfl) 31 (.tmp 4) (by rfl) w.heap.size 0 (by rfl) (encS s) _ HB0.out.all Try.underlying31 rfl (by kernel_rfl) ?_)
        | (go_at_call 22; refine (heard_t (U.alloc (.cells (encE ⟨zeroS, 0, 0, 0⟩).toArray 71)) U.heap.size ⟨zeroS, 0, 0, 0⟩ s now HE0.out ⟨by decide, by decide⟩).mono ?_; rintro e W ⟨rfl, hEW, hBW⟩))
      have HEW := Lib.hid hEW
      have HBUW : Hid (But [] U W) := ((But.refl [] U).alloc _).trans hBW (fun y hy => by simp at hy; subst hy; exact .inr (Nat.le_refl _))
      have HTW : Hid (TabAt base W T [o0, o1, o2, o3, o4, o5, o6, o7] win mb (l.filter fun x => decide (keyX x ≠ ko))) := HTU.out.below (HBUW.out.below (Nat.le_refl _) (by simp)) (Nat.le_refl _)
      have HXW : Hid (Blk W w.heap.size 31 (encS s)) := HBU.out.but HBUW.out (by simp)
      have HWW : Hid (But [mb] w W) := HWU.out.trans HBUW.out (by simp)
      clear hEW hBW HE0 HB0
      generalize hg : U.heap.size = g at *
      have HG := Lib.hid hg
      clear hg
      obtain ⟨W1, hW1⟩ : ∃ W1, W1 = W.drew := ⟨_, rfl⟩
      have HW1 := Lib.hid hW1
      have hT1 : TabAt base W1 T [o0, o1, o2, o3, o4, o5, o6, o7] win mb (l.filter fun x => decide (keyX x ≠ ko)) := by rw [hW1]; exact HTW.out.kept fun _ _ => rfl
      have hX1 : Blk W1 w.heap.size 31 (encS s) := by rw [hW1]; exact HXW.out
      have hWW1 : But [mb] w W1 := by rw [hW1]; exact HWW.out.drewN 1
      have hE1 : EntAt W1 g ⟨s, now, 0, 1⟩ := by rw [hW1]; exact HEW.out
      have d9 := hT1.cmap
      obtain ⟨x0, x1, x2, x3, x4, x5, x6, x7, x8⟩ := nineAt (hX1.range 14 (encP s.sender) (encS_sender s))
      simp only [Nat.reduceAdd] at x1 x2 x3 x4 x5 x6 x7 x8
      rw [← HPP.out] at x0 x1 x2 x3 x4 x5 x6 x7 x8
      obtain ⟨W2, hrun, hM2, hg2, hs2⟩ := hT1.map.put HP.out.1 (by simpa using HLN.out.1) g (by rw [List.length_map]; have := HLN.out.2; omega)
      simp only [pv, bp] at hrun
      have hb12 : But [mb] W1 W2 := .of_grown hg2 (by simp)
      have HF : Hid (TabAt base W2 T [o0, o1, o2, o3, o4, o5, o6, o7] win mb (ins keyX (⟨s, now, 0, 1⟩, g) (l.filter fun x => decide (keyX x ≠ ko))) ∧ But [mb] w W2) := by
        refine ⟨hT1.ins ⟨s, now, 0, 1⟩ g ?_ ?_ ?_ hb12 ?_ HLN.out.2 ⟨by simp, by simp⟩ HNow.out, hWW1.trans' hb12⟩
        · intro hc
          have h1 := HTU.out.lt g hc
          have := HG.out
          omega
        · have h2 : base ≤ U.heap.size := Nat.le_of_lt (Nat.lt_of_le_of_lt (HTU.out.from_ T (by simp)) HTU.out.tab.lt)
          rw [HG.out] at h2
          exact h2
        · exact ⟨hE1.but hb12 (by simp; intro e; have h1 := HTU.out.lt mb (by simp); have := HG.out; omega), by rw [← HPP.out]; exact hM2⟩
        · rw [← HPP.out]; exact HLN.out.1
      clear hW1 hT1 hX1 hWW1 hE1 hM2 hg2 hs2 hb12 HTW HXW HWW HEW HBUW HTU HBU HWU HLN
      refine wp_region_until (S := fun w' => w' = W1) (B := [0, 1, 2, 4, 6, 7]) (by kernel_rfl) ?_
      rw [← HW1.out]
      clear HW1
      refine wpAnyU_takeB (i := 0) (v := .pointer (some ⟨T, 0, none⟩)) rfl (by kernel_rfl) (by kernel_rfl) (by kernel_rfl) (by kernel_rfl) (fun _ _ _ h => h) (Or.inl ⟨by rfl, fun w => by go_simp⟩) ?_
      try simp only [Act.put, List.getElem_toArray, List.getElem_cons_succ, List.getElem_cons_zero, List.setIfInBounds_toArray, List.set_cons_zero, List.set_cons_succ]
      refine wpAnyU_takeB (i := 1) (v := .pointer (some ⟨T, 0, none⟩)) rfl (by kernel_rfl) (by kernel_rfl) (by kernel_rfl) (by kernel_rfl) (fun _ _ _ h => h) (Or.inl ⟨by rfl, fun w => by go_simp⟩) ?_
      try simp only [Act.put, List.getElem_toArray, List.getElem_cons_succ, List.getElem_cons_zero, List.setIfInBounds_toArray, List.set_cons_zero, List.set_cons_succ]
      refine wpAnyU_takeB (i := 2) (v := .pointer (some ⟨T, 9, none⟩)) rfl (by kernel_rfl) (by kernel_rfl) (by kernel_rfl) (by kernel_rfl) (fun _ _ _ h => h) (Or.inl ⟨by rfl, fun w => by go_simp⟩) ?_
      try simp only [Act.put, List.getElem_toArray, List.getElem_cons_succ, List.getElem_cons_zero, List.setIfInBounds_toArray, List.set_cons_zero, List.set_cons_succ]
      refine wpAnyU_takeB (i := 4) (v := .pointer (some ⟨w.heap.size, 14, none⟩)) rfl (by kernel_rfl) (by kernel_rfl) (by kernel_rfl) (by kernel_rfl) (fun _ _ _ h => h) (Or.inl ⟨by rfl, fun w => by go_simp⟩) ?_
      try simp only [Act.put, List.getElem_toArray, List.getElem_cons_succ, List.getElem_cons_zero, List.setIfInBounds_toArray, List.set_cons_zero, List.set_cons_succ]
      refine wpAnyU_takeB (i := 6) (v := .pointer (some ⟨g, 0, none⟩)) rfl (by kernel_rfl) (by kernel_rfl) (by kernel_rfl) (by kernel_rfl) (fun _ _ _ h => h) (Or.inl ⟨by rfl, fun w => by go_simp⟩) ?_
      try simp only [Act.put, List.getElem_toArray, List.getElem_cons_succ, List.getElem_cons_zero, List.setIfInBounds_toArray, List.set_cons_zero, List.set_cons_succ]
      refine wpAnyU_take (i := 3) (v := .map (some mb)) rfl (by kernel_rfl) (by kernel_rfl) (by kernel_rfl) (by kernel_rfl) (fun _ _ _ h => h) rfl (Or.inl ⟨by rfl, fun w hw => by subst hw; go_simp⟩) ?_
      try simp only [Act.put, List.getElem_toArray, List.getElem_cons_succ, List.getElem_cons_zero, List.setIfInBounds_toArray, List.set_cons_zero, List.set_cons_succ]
      refine wpAnyU_take (i := 5) (v := .agg (encP p).toArray) rfl (by kernel_rfl) (by kernel_rfl) (by kernel_rfl) (by kernel_rfl) (fun _ _ _ h => h) rfl (Or.inl ⟨by rfl, fun w hw => by subst hw; go_simp⟩) ?_
      try simp only [Act.put, List.getElem_toArray, List.getElem_cons_succ, List.getElem_cons_zero, List.setIfInBounds_toArray, List.set_cons_zero, List.set_cons_succ]
      refine wpAnyU_all (rs := [7]) (by kernel_rfl) (by simp) (all1 ?_)
      refine wpOpU_stepB rfl (by kernel_rfl) (fun K' hK => ?_)
      go_simp
      refine hK _ _ ?_
      clear hK K'
      try simp only [Act.put, List.getElem_toArray, List.getElem_cons_succ, List.getElem_cons_zero, List.setIfInBounds_toArray, List.set_cons_zero, List.set_cons_succ]
      refine wpAnyU_done (by kernel_rfl) ?_ _
      go_wp2_with fail
      go_ret
      have e := HKO.out
      subst e
      exact .inr (.inr ⟨HFEW.out, o.1, HOV.out.1, rfl, g, HN9.out.2, HF.out.1, HF.out.2⟩)
end Go.Proofs.Ytmjmoihggojpiaa
