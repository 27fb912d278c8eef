/- The walks of Drop, Last. -/
import Derived.Test.YtmjmoihggojpiaaForWalkC
set_option linter.unusedSimpArgs false
set_option linter.unusedVariables false
namespace Go.Proofs.Ytmjmoihggojpiaa
open Go Go.Maps Go.RowKit Go.Shelf Go.Sort Go.Lib

/-- Nine cells, one by one. -/
def Nine (W : World) (B : Nat) (p : Pt) : Prop := W.cell? ⟨B, 0, none⟩ = some (.int .u8 p.a0) ∧ W.cell? ⟨B, 1, none⟩ = some (.int .u8 p.a1) ∧ W.cell? ⟨B, 2, none⟩ = some (.int .u8 p.a2) ∧ W.cell? ⟨B, 3, none⟩ = some (.int .u8 p.a3) ∧ W.cell? ⟨B, 4, none⟩ = some (.int .u8 p.a4) ∧
    W.cell? ⟨B, 5, none⟩ = some (.int .u8 p.a5) ∧ W.cell? ⟨B, 6, none⟩ = some (.int .u8 p.a6) ∧ W.cell? ⟨B, 7, none⟩ = some (.int .u8 p.a7) ∧ W.cell? ⟨B, 8, none⟩ = some (.int .i64 p.n)

theorem MapIs.drewN {w : World} {b : Nat} {l : List (Pt × Nat)} (h : MapIs w b l) (n : Nat) : MapIs (w.drewN n) b l := h

theorem TabAt.drop {base : Nat} {w w' : World} {T : Nat} {own : List Int} {win : Int} {mb : Nat} {l : List (En × Nat)} (h : TabAt base w T own win mb l) (p : Pt)
    (hM : MapIs w' mb ((l.map fun x => (keyX x, x.2)).filter fun y => y.1 ≠ p)) (hb : But [mb] w w') : TabAt base w' T own win mb (l.filter fun x => decide (keyX x ≠ p)) := by
  have hap := h.apart
  have hap2 := hap
  simp only [List.nodup_cons, List.mem_cons, not_or] at hap
  have hs : (l.filter fun x => decide (keyX x ≠ p)).Sublist l := List.filter_sublist
  refine ⟨h.tab.but hb (by simp [hap.1.1]), h.len, ?_, fun x hx => ?_, h.asc.sub (hs.map _), ?_, fun k hk => h.from_ k ?_, Nat.le_trans (List.length_filter_le _ _) h.few, fun x hx => h.many x (hs.mem hx), fun x hx => h.times x (hs.mem hx), h.win_, h.bytes⟩
  · rw [List.filter_map] at hM
    exact hM
  · exact (h.ents x (hs.mem hx)).but hb (by simp; intro e; exact hap.2.1 (by rw [← e]; exact List.mem_map.2 ⟨x, hs.mem hx, rfl⟩))
  · exact hap2.sublist (((hs.map _).cons_cons _).cons_cons _)
  · simp only [List.mem_cons] at hk ⊢
    exact hk.imp id (Or.imp id fun hm => (hs.map _).mem hm)
theorem TabAt.miss {base : Nat} {w : World} {T : Nat} {own : List Int} {win : Int} {mb : Nat} {l : List (En × Nat)} (h : TabAt base w T own win mb l) {p : Pt} (hp : p.ok) (hn : p ∉ l.map keyX) :
    (Instr.lookup 61 (.map (some mb)) (.agg (encP p).toArray) true).run Try.prog w = .ok (.tuple #[.pointer none, .bool false]) w := h.map.miss hp (by simpa using hn)
theorem TabAt.look {base : Nat} {w : World} {T : Nat} {own : List Int} {win : Int} {mb : Nat} {l : List (En × Nat)} (h : TabAt base w T own win mb l) {x : En × Nat} (hx : x ∈ l) :
    (Instr.lookup 61 (.map (some mb)) (.agg (encP (keyX x)).toArray) true).run Try.prog w = .ok (.tuple #[.pointer (some ⟨x.2, 0, none⟩), .bool true]) w := h.map.look true (List.mem_map.2 ⟨x, hx, rfl⟩)
theorem TabAt.look1 {base : Nat} {w : World} {T : Nat} {own : List Int} {win : Int} {mb : Nat} {l : List (En × Nat)} (h : TabAt base w T own win mb l) {x : En × Nat} (hx : x ∈ l) :
    (Instr.lookup 61 (.map (some mb)) (.agg (encP (keyX x)).toArray) false).run Try.prog w = .ok (.pointer (some ⟨x.2, 0, none⟩)) w := h.map.look false (List.mem_map.2 ⟨x, hx, rfl⟩)
theorem TabAt.map_ok {base : Nat} {w : World} {T : Nat} {own : List Int} {win : Int} {mb : Nat} {l : List (En × Nat)} (h : TabAt base w T own win mb l) (x : En × Nat) (hx : x ∈ l) : (keyX x).ok := by
  obtain ⟨es, clock, _, _, _, h4, _⟩ := h.map
  exact h4 (keyX x, x.2) (List.mem_map.2 ⟨x, hx, rfl⟩)
theorem TabAt.drewN {base : Nat} {w : World} {T : Nat} {own : List Int} {win : Int} {mb : Nat} {l : List (En × Nat)} (h : TabAt base w T own win mb l) (n : Nat) : TabAt base (w.drewN n) T own win mb l := h.kept fun _ _ => rfl
/-- What 'm[p]' tells. -/
theorem TabAt.asks {base : Nat} {w : World} {T : Nat} {own : List Int} {win : Int} {mb : Nat} {l : List (En × Nat)} (h : TabAt base w T own win mb l) {p : Pt} (hp : p.ok) :
    ∃ q : Option Addr, (∀ n, (Instr.lookup 61 (.map (some mb)) (.agg (encP p).toArray) true).run Try.prog (w.drewN n) = .ok (.tuple #[.pointer q, .bool (decide (p ∈ l.map keyX))]) (w.drewN n)) ∧
      ((p ∉ l.map keyX ∧ q = none) ∨ ∃ x ∈ l, keyX x = p ∧ q = some ⟨x.2, 0, none⟩) := by
  by_cases hm : p ∈ l.map keyX
  · obtain ⟨x, hx, rfl⟩ := List.mem_map.1 hm
    refine ⟨some ⟨x.2, 0, none⟩, fun n => ?_, .inr ⟨x, hx, rfl, rfl⟩⟩
    rw [(h.drewN n).look hx, decide_eq_true hm]
  · refine ⟨none, fun n => ?_, .inl ⟨hm, rfl⟩⟩
    rw [(h.drewN n).miss hp hm, decide_eq_false hm]

set_option maxRecDepth 100000 in
set_option maxHeartbeats 1000000 in
theorem drop_t {base : Nat} {w : World} {T : Nat} {own : List Int} {win : Int} {mb : Nat} {l : List (En × Nat)} (h : TabAt base w T own win mb l) (p : Pt) (hp : p.ok) :
    Calls Try.prog 25 #[.pointer (some ⟨T, 0, none⟩), .agg (encP p).toArray] w fun r w' => r = .returned (.bool (decide (p ∈ l.map keyX))) ∧ TabAt base w' T own win mb (l.filter fun x => decide (keyX x ≠ p)) ∧ But [mb] w w' := by
  obtain ⟨V, hV⟩ : ∃ V, V = w.alloc (.cells (encP p).toArray 29) := ⟨_, rfl⟩
  have hTV : TabAt base V T own win mb l := by rw [hV]; exact h.below ((Below.refl _ w).alloc (Nat.le_refl _) _) (Nat.le_refl _)
  have hBV : But [mb] w V := by rw [hV]; exact (But.refl _ _).alloc _
  have hX : V.heap[w.heap.size]? = some (.cells (encP p).toArray 29 (0, 0)) := by rw [hV]; exact World.alloc_heap_new w _
  obtain ⟨x0, x1, x2, x3, x4, x5, x6, x7, x8⟩ := nine_cells hX
  have c9 := hTV.cmap
  obtain ⟨q, look, _⟩ := hTV.asks hp
  generalize hd : decide (p ∈ l.map keyX) = dd at look ⊢
  have HT := Lib.hid (And.intro hTV hBV)
  have HV := Lib.hid hV
  clear h hV hTV hBV hX
  go_enter Try.func25, Try.ntmps25
  go_wp2_with fail
  rw [← HV.out]
  clear HV
  go_quiet (fail)
  go_wp2_with fail
  obtain ⟨W1, hW1⟩ : ∃ W1, W1 = (V.drewN nq).drew := ⟨_, rfl⟩
  have HW1 := Lib.hid hW1
  have HT1 : Hid (TabAt base W1 T own win mb l) := by rw [hW1]; exact HT.out.1.kept fun _ _ => rfl
  have HB1 : Hid (But [mb] w W1) := by rw [hW1]; exact ⟨HT.out.2.os, HT.out.2.tape, HT.out.2.output, HT.out.2.size, HT.out.2.block⟩
  have d9 : W1.cell? ⟨T, 9, none⟩ = _ := HT1.out.cmap
  obtain ⟨y0, y1, y2, y3, y4, y5, y6, y7, y8⟩ : Nine W1 w.heap.size p := by rw [hW1]; exact ⟨x0, x1, x2, x3, x4, x5, x6, x7, x8⟩
  obtain ⟨V2, hrun, hM2, hg2, hs2⟩ := HT1.out.map.drop hp 0
  simp only [pv] at hrun
  have HT2 : Hid (TabAt base V2 T own win mb (l.filter fun x => decide (keyX x ≠ p))) := HT1.out.drop p hM2 (.of_grown hg2 (by simp))
  have HB2 : Hid (But [mb] w V2) := HB1.out.trans' (.of_grown hg2 (by simp))
  clear hW1 hM2 hg2 hs2 look hd x0 x1 x2 x3 x4 x5 x6 x7 x8 c9 HT HB1 HT1
  refine wp_region_until (S := fun w' => w' = W1) (B := [0, 1, 2, 5]) (by kernel_rfl) ?_
  rw [← HW1.out]
  clear HW1
  refine wpAnyU_takeB (i := 0) (v := .pointer (some ⟨T, 0, none⟩)) rfl (by kernel_rfl) (by kernel_rfl) (by kernel_rfl) (by kernel_rfl) (fun _ _ _ h => h) (Or.inl ⟨by rfl, fun w => by go_simp⟩) ?_
  try simp only [Act.put, List.getElem_toArray, List.getElem_cons_succ, List.getElem_cons_zero, List.setIfInBounds_toArray, List.set_cons_zero, List.set_cons_succ]
  refine wpAnyU_takeB (i := 1) (v := .pointer (some ⟨T, 0, none⟩)) rfl (by kernel_rfl) (by kernel_rfl) (by kernel_rfl) (by kernel_rfl) (fun _ _ _ h => h) (Or.inl ⟨by rfl, fun w => by go_simp⟩) ?_
  try simp only [Act.put, List.getElem_toArray, List.getElem_cons_succ, List.getElem_cons_zero, List.setIfInBounds_toArray, List.set_cons_zero, List.set_cons_succ]
  refine wpAnyU_takeB (i := 2) (v := .pointer (some ⟨T, 9, none⟩)) rfl (by kernel_rfl) (by kernel_rfl) (by kernel_rfl) (by kernel_rfl) (fun _ _ _ h => h) (Or.inl ⟨by rfl, fun w => by go_simp⟩) ?_
  try simp only [Act.put, List.getElem_toArray, List.getElem_cons_succ, List.getElem_cons_zero, List.setIfInBounds_toArray, List.set_cons_zero, List.set_cons_succ]
  refine wpAnyU_take (i := 3) (v := .map (some mb)) rfl (by kernel_rfl) (by kernel_rfl) (by kernel_rfl) (by kernel_rfl) (fun _ _ _ h => h) rfl (Or.inl ⟨by rfl, fun w hw => by subst hw; go_simp⟩) ?_
  try simp only [Act.put, List.getElem_toArray, List.getElem_cons_succ, List.getElem_cons_zero, List.setIfInBounds_toArray, List.set_cons_zero, List.set_cons_succ]
  refine wpAnyU_take (i := 4) (v := .agg (encP p).toArray) rfl (by kernel_rfl) (by kernel_rfl) (by kernel_rfl) (by kernel_rfl) (fun _ _ _ h => h) rfl (Or.inl ⟨by rfl, fun w hw => by subst hw; go_simp⟩) ?_
  try simp only [Act.put, List.getElem_toArray, List.getElem_cons_succ, List.getElem_cons_zero, List.setIfInBounds_toArray, List.set_cons_zero, List.set_cons_succ]
  refine wpAnyU_all (rs := [5]) (by kernel_rfl) (by simp) (all1 ?_)
  refine wpOpU_stepB rfl (by kernel_rfl) (fun K' hK => ?_)
  go_simp
  refine hK _ _ ?_
  clear hK K'
  try simp only [Act.put, List.getElem_toArray, List.getElem_cons_succ, List.getElem_cons_zero, List.setIfInBounds_toArray, List.set_cons_zero, List.set_cons_succ]
  refine wpAnyU_done (by kernel_rfl) ?_ _
  go_wp2_with fail
  go_ret
  exact ⟨rfl, HT2.out, HB2.out⟩
end Go.Proofs.Ytmjmoihggojpiaa
