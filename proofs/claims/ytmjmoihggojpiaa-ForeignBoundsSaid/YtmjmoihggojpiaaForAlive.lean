/- The walk of alive. -/
import Derived.Test.YtmjmoihggojpiaaForTabL
set_option linter.unusedSimpArgs false
set_option linter.unusedVariables false
namespace Go.Proofs.Ytmjmoihggojpiaa
open Go Go.Maps Go.RowKit Go.Shelf Go.Sort Go.Lib

def s2 : St := ⟨0, 0, 0, 0, 0, 0, 0, 0, 0, 0, 0, 0, 0, 0, ⟨2, 0, 0, 0, 0, 0, 0, 0, 1⟩, ⟨0, 0, 0, 0, 0, 0, 0, 0, 0⟩⟩
theorem s2_ok : s2.sender.ok := by
  refine ⟨?_, by decide, by decide⟩
  intro x hx
  simp [s2, Pt.clock] at hx
  omega
theorem hptr : Try.prog.underlying 32 = some (.pointer (Try.prog.pointee 32)) := by kernel_rfl
theorem build2 (v : World) : (Instr.build 31 #[(5, .agg #[.int .u8 2, .int .u8 0, .int .u8 0, .int .u8 0, .int .u8 0, .int .u8 0, .int .u8 0, .int .u8 0, .int .i64 1])]).run Try.prog v = .ok (.agg (encS s2).toArray) v := by kernel_rfl
theorem live1 : hear [1, 0, 0, 0, 0, 0, 0, 0] (4 * 10) [] s2 0 = ([⟨s2, 0, 0, 1⟩], 2) := by decide
theorem live2 : qual (4 * 10) 5 [⟨s2, 0, 0, 1⟩] = [] := by decide
theorem live3 : hear [1, 0, 0, 0, 0, 0, 0, 0] (4 * 10) [⟨s2, 0, 0, 1⟩] s2 10 = ([⟨s2, 10, 0, 2⟩], 1) := by decide
theorem live4 : qual (4 * 10) 15 [⟨s2, 10, 0, 2⟩] = [s2] := by decide
theorem live5 : qual (4 * 10) 41 [⟨s2, 10, 0, 2⟩] = [] := by decide

set_option maxRecDepth 100000 in
set_option maxHeartbeats 8000000 in
theorem alive_t (w : World) : Calls Try.prog 10 #[] w fun r w' => r = .returned (.bool true) ∧ Below w.heap.size w w' := by
  have hNew := new_t [1, 0, 0, 0, 0, 0, 0, 0] rfl (by decide) 10 (by decide) (by decide) w
  have HNew := Lib.hid hNew
  clear hNew
  go_enter Try.func10, Try.ntmps10
  go_wp2_with fail
  refine HNew.out.mono ?_
  rintro e U ⟨T, mb, rfl, hT, hB⟩
  have hTP : ∀ v : World, (binOp .eql 32 (.pointer (some ⟨T, 0, none⟩)) (.pointer none)).run Try.prog v = .ok (.bool false) v := fun v => run_eql_pointer_nil v 32 _ hptr
  have ht : (U.alloc (.cells (encS zeroS).toArray 31)).there U.heap.size 0 32 := (Blk.new U 31 (encS zeroS)).there 0 32 (by rw [encS_len]; omega)
  obtain ⟨V, hV⟩ : ∃ V, V = (U.alloc (.cells (encS zeroS).toArray 31)).setCells U.heap.size 0 (encS s2).toArray.toList := ⟨_, rfl⟩
  have hBUV : Below U.heap.size U V := by
    rw [hV]
    exact ((But.refl [U.heap.size] U).alloc _).setCells U.heap.size (by simp) _ 0 |>.below (Nat.le_refl _) (by simp)
  have HV : Hid (V = (U.alloc (.cells (encS zeroS).toArray 31)).setCells U.heap.size 0 (encS s2).toArray.toList ∧ Blk V U.heap.size 31 (encS s2) ∧ TabL w.heap.size [U.heap.size] V T [1, 0, 0, 0, 0, 0, 0, 0] (4 * 10) [] ∧ Below w.heap.size w V) := by
    refine ⟨hV, ?_, ?_, hB.trans (hBUV.mono hB.size)⟩
    rotate_left
    · exact ⟨mb, [], hT.below hBUV (Nat.le_refl _), rfl, fun x hx hc => by simp only [List.mem_singleton] at hx; subst hx; have := hT.lt _ hc; omega, fun x hx => by simp only [List.mem_singleton] at hx; subst hx; rw [hV]; exact (Blk.sets (w := U) (encS s2) 0 (Blk.new U 31 (encS zeroS))).lt⟩
    rw [hV]
    have h1 := Blk.sets (w := U) (encS s2) 0 (Blk.new U 31 (encS zeroS))
    have e1 := putL_all (encS s2) (encS zeroS) [] [] rfl
    rw [show putL (encS zeroS) 0 (encS s2) = encS s2 by simpa using e1] at h1
    exact h1
  have hb := build2
  clear hV hT hB hBUV
  go_wp2_with ((with_reducible refine wpList_store_mid ?_ 31 (.tmp 3) (.tmp 20) ?_ U.heap.size 0 (encS s2).toArray ?_ ?_ ?_ ?_ (all_oneCell_toArray (encS_one s2)) ?_); rfl; rfl; rfl; rfl; exact ht; kernel_rfl)
  generalize hZ : World.setCells _ _ _ _ = Z
  have hZV : Z = V := by rw [← hZ, HV.out.1]; rfl
  rw [hZV]
  clear hZV hZ
  refine wp_region_until (S := fun w' => Blk w' U.heap.size 31 (encS s2)) (B := [0, 3, 5]) (by kernel_rfl) ?_
  refine wpAnyU_takeB (i := 0) (v := .pointer (some ⟨T, 0, none⟩)) rfl (by kernel_rfl) (by kernel_rfl) (by kernel_rfl) (by kernel_rfl) (fun _ _ _ h => h) (Or.inl ⟨by rfl, fun w => by go_simp⟩) ?_
  try simp only [Act.put, List.getElem_toArray, List.getElem_cons_succ, List.getElem_cons_zero, List.setIfInBounds_toArray, List.set_cons_zero, List.set_cons_succ]
  refine wpAnyU_takeB (i := 3) (v := .pointer (some ⟨T, 0, none⟩)) rfl (by kernel_rfl) (by kernel_rfl) (by kernel_rfl) (by kernel_rfl) (fun _ _ _ h => h) (Or.inl ⟨by rfl, fun w => by go_simp⟩) ?_
  try simp only [Act.put, List.getElem_toArray, List.getElem_cons_succ, List.getElem_cons_zero, List.setIfInBounds_toArray, List.set_cons_zero, List.set_cons_succ]
  refine wpAnyU_takeB (i := 5) (v := .pointer (some ⟨T, 0, none⟩)) rfl (by kernel_rfl) (by kernel_rfl) (by kernel_rfl) (by kernel_rfl) (fun _ _ _ h => h) (Or.inl ⟨by rfl, fun w => by go_simp⟩) ?_
  try simp only [Act.put, List.getElem_toArray, List.getElem_cons_succ, List.getElem_cons_zero, List.setIfInBounds_toArray, List.set_cons_zero, List.set_cons_succ]
  refine wpAnyU_take (i := 1) (v := .agg (encS s2).toArray) rfl (by kernel_rfl) (by kernel_rfl) (by kernel_rfl) (by kernel_rfl) (fun _ _ _ h => h) HV.out.2.1 (yieldsIf_load_mid (by rfl) 31 (.tmp 3) rfl U.heap.size 0 rfl (encS s2) _ (fun w hw => hw.all) Try.underlying31 rfl (by kernel_rfl)) ?_
  try simp only [Act.put, List.getElem_toArray, List.getElem_cons_succ, List.getElem_cons_zero, List.setIfInBounds_toArray, List.set_cons_zero, List.set_cons_succ]
  refine wpAnyU_take (i := 6) (v := .agg (encS s2).toArray) rfl (by kernel_rfl) (by kernel_rfl) (by kernel_rfl) (by kernel_rfl) (fun _ _ _ h => h) HV.out.2.1 (yieldsIf_load_mid (by rfl) 31 (.tmp 3) rfl U.heap.size 0 rfl (encS s2) _ (fun w hw => hw.all) Try.underlying31 rfl (by kernel_rfl)) ?_
  try simp only [Act.put, List.getElem_toArray, List.getElem_cons_succ, List.getElem_cons_zero, List.setIfInBounds_toArray, List.set_cons_zero, List.set_cons_succ]
  refine wpAnyU_all (rs := [2]) (by kernel_rfl) (by simp) (all1 ?_)
  refine wpOpU_step rfl (fun K' hK => ?_)
  go_simp
  refine (hear_l (HV.out.2.2.1.later (below_drewN (Below.refl _ V) 1)) s2 s2_ok 0).mono ?_
  rintro e V1 ⟨rfl, hT1, hK1⟩
  rw [live1] at hT1 ⊢
  have H1 : Hid (Blk V1 U.heap.size 31 (encS s2) ∧ TabL w.heap.size [U.heap.size] V1 T [1, 0, 0, 0, 0, 0, 0, 0] (4 * 10) [⟨s2, 0, 0, 1⟩] ∧ Below w.heap.size w V1) := ⟨hK1.blk (w := V.drew) HV.out.2.1 (by simp), hT1, (below_drewN HV.out.2.2.2 1).trans hK1.below⟩
  clear hT1 hK1
  try go_simp
  refine hK _ _ H1.out.1 ?_
  clear hK K'
  try simp only [Act.put, List.getElem_toArray, List.getElem_cons_succ, List.getElem_cons_zero, List.setIfInBounds_toArray, List.set_cons_zero, List.set_cons_succ]
  refine wpAnyU_all (rs := [4]) (by kernel_rfl) (by simp) (all1 ?_)
  refine wpOpU_step rfl (fun K' hK => ?_)
  go_simp
  refine (qual_l H1.out.2.1 5 (by decide) (by decide)).mono ?_
  rintro e V2 ⟨v5, rfl, hS2, hT2, hK2, hB2⟩
  rw [live2] at hS2
  obtain ⟨q5, c5, rfl, _⟩ := hS2
  have H2 : Hid (Blk V2 U.heap.size 31 (encS s2) ∧ TabL w.heap.size [U.heap.size] V2 T [1, 0, 0, 0, 0, 0, 0, 0] (4 * 10) [⟨s2, 0, 0, 1⟩] ∧ Below w.heap.size w V2) := ⟨hK2.blk H1.out.1 (by simp), hT2, H1.out.2.2.trans (hK2.below)⟩
  clear hT2 hK2 hB2
  try go_simp
  refine hK _ _ H2.out.1 ?_
  clear hK K'
  try simp only [Act.put, List.getElem_toArray, List.getElem_cons_succ, List.getElem_cons_zero, List.setIfInBounds_toArray, List.set_cons_zero, List.set_cons_succ]
  refine wpAnyU_all (rs := [7]) (by kernel_rfl) (by simp) (all1 ?_)
  refine wpOpU_step rfl (fun K' hK => ?_)
  go_simp
  refine (hear_l H2.out.2.1 s2 s2_ok 10).mono ?_
  rintro e V3 ⟨rfl, hT3, hK3⟩
  rw [live3] at hT3 ⊢
  have H3 : Hid (Blk V3 U.heap.size 31 (encS s2) ∧ TabL w.heap.size [U.heap.size] V3 T [1, 0, 0, 0, 0, 0, 0, 0] (4 * 10) [⟨s2, 10, 0, 2⟩] ∧ Below w.heap.size w V3) := ⟨hK3.blk H2.out.1 (by simp), hT3, H2.out.2.2.trans (hK3.below)⟩
  clear hT3 hK3
  try go_simp
  refine hK _ _ H3.out.1 ?_
  clear hK K'
  try simp only [Act.put, List.getElem_toArray, List.getElem_cons_succ, List.getElem_cons_zero, List.setIfInBounds_toArray, List.set_cons_zero, List.set_cons_succ]
  refine wpAnyU_all (rs := [8]) (by kernel_rfl) (by simp) (all1 ?_)
  refine wpOpU_step rfl (fun K' hK => ?_)
  go_simp
  refine hK _ _ H3.out.1 ?_
  clear hK K'
  try simp only [Act.put, List.getElem_toArray, List.getElem_cons_succ, List.getElem_cons_zero, List.setIfInBounds_toArray, List.set_cons_zero, List.set_cons_succ]
  refine wpAnyU_all (rs := [9]) (by kernel_rfl) (by simp) (all1 ?_)
  refine wpOpU_step rfl (fun K' hK => ?_)
  go_simp
  refine hK _ _ H3.out.1 ?_
  clear hK K'
  try simp only [Act.put, List.getElem_toArray, List.getElem_cons_succ, List.getElem_cons_zero, List.setIfInBounds_toArray, List.set_cons_zero, List.set_cons_succ]
  refine wpAnyU_all (rs := [10]) (by kernel_rfl) (by simp) (all1 ?_)
  refine wpOpU_step rfl (fun K' hK => ?_)
  go_simp
  refine hK _ _ H3.out.1 ?_
  clear hK K'
  try simp only [Act.put, List.getElem_toArray, List.getElem_cons_succ, List.getElem_cons_zero, List.setIfInBounds_toArray, List.set_cons_zero, List.set_cons_succ]
  refine wpAnyU_done (by kernel_rfl) ?_ _
  go_wp2_with fail
  refine (qual_l H3.out.2.1 15 (by decide) (by decide)).mono ?_
  rintro e V4 ⟨v6, rfl, hS4, hT4, hK4, hB4⟩
  rw [live4] at hS4
  obtain ⟨q6, c6, rfl, _⟩ := hS4
  have H4 : Hid (TabL w.heap.size [U.heap.size] V4 T [1, 0, 0, 0, 0, 0, 0, 0] (4 * 10) [⟨s2, 10, 0, 2⟩] ∧ Below w.heap.size w V4) := ⟨hT4, H3.out.2.2.trans (hK4.below)⟩
  clear hT4 hK4 hB4
  go_wp2_with fail
  refine (qual_l H4.out.1 41 (by decide) (by decide)).mono ?_
  rintro e V5 ⟨v7, rfl, hS5, hT5, hK5, hB5⟩
  rw [live5] at hS5
  obtain ⟨q7, c7, rfl, _⟩ := hS5
  have H5 : Hid (TabL w.heap.size [U.heap.size] V5 T [1, 0, 0, 0, 0, 0, 0, 0] (4 * 10) [⟨s2, 10, 0, 2⟩] ∧ Below w.heap.size w V5) := ⟨hT5, H4.out.2.trans (hK5.below)⟩
  clear hT5 hK5 hB5
  go_wp2_with fail
  refine (len_l H5.out.1).mono ?_
  rintro e V6 ⟨rfl, rfl⟩
  go_wp2_with fail
  go_ret
  exact ⟨rfl, H5.out.2⟩
end Go.Proofs.Ytmjmoihggojpiaa
