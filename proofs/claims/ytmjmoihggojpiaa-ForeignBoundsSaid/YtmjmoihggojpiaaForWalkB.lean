/- The walks of entries: entry.last, entry.heard. -/
import Derived.Test.YtmjmoihggojpiaaForState
import Derived.BigQuiet
import Derived.Deep.DrawnRows
import Derived.WalkLawsBesides
import Derived.WalkSpells
import Derived.Deep.QuietTactic
import Derived.Lib.Hide
import Derived.KernelRfl
set_option linter.unusedSimpArgs false
set_option linter.unusedVariables false
namespace Go.Proofs.Ytmjmoihggojpiaa
open Go Go.Maps Go.RowKit Go.Shelf Go.Sort Go.Lib

def EntAt (w : World) (g : Nat) (e : En) : Prop := Blk w g 71 (encE e)
theorem EntAt.t0 {w : World} {g : Nat} {e : En} (h : EntAt w g e) : w.cell? ⟨g, 32, none⟩ = some (.int .i64 e.t0) := (Blk.cell h 32).trans rfl
theorem EntAt.t1 {w : World} {g : Nat} {e : En} (h : EntAt w g e) : w.cell? ⟨g, 33, none⟩ = some (.int .i64 e.t1) := (Blk.cell h 33).trans rfl
theorem EntAt.many {w : World} {g : Nat} {e : En} (h : EntAt w g e) : w.cell? ⟨g, 34, none⟩ = some (.int .i64 e.many) := (Blk.cell h 34).trans rfl

theorem wrap_in {x : Int} (h1 : -9223372036854775808 ≤ x) (h2 : x ≤ 9223372036854775807) : IntKind.i64.wrap x = x := by simp [IntKind.wrap, IntKind.bits, IntKind.signed]; omega

theorem last_t (w : World) (g : Nat) (e : En) (h : EntAt w g e) : Calls Try.prog 21 #[.pointer (some ⟨g, 0, none⟩)] w fun r w' => r = .returned (.int .i64 e.t0) ∧ w = w' := by
  have c0 := h.t0
  clear h
  go_enter Try.func21, Try.ntmps21
  go_wp2_with fail
  go_ret
  exact ⟨rfl, rfl⟩

theorem copy_t (w : World) (g : Nat) (e : En) (h : EntAt w g e) :
    (Builtin.copy_ #[74, 74] 3 #[.slice (some ⟨g, 33, none⟩) 1 1, .slice (some ⟨g, 32, none⟩) 2 2]).run Try.prog w = .ok (.int .i64 1) (w.setCell ⟨g, 33, none⟩ (.int .i64 e.t0)) :=
  run_copy_cells w 74 74 3 3 g 33 1 1 ⟨g, 32, none⟩ 2 2 [.int .i64 e.t0] Try.underlying74 (by kernel_rfl) rfl
    (fun j v hj => by
      have : j = 0 := by have := (List.getElem?_eq_some_iff.1 hj).1; simpa using this
      subst this
      simp at hj; subst hj; exact h.t0)
    (fun j hj => by
      have : j = 0 := by simpa using hj
      subst this
      rw [h.t1]; rfl)
    (fun j hj => Blk.frozen h _) (by simp [Value.oneCell'])

set_option maxRecDepth 100000 in
set_option maxHeartbeats 1000000 in
theorem heard_t (w : World) (g : Nat) (e : En) (s : St) (now : Int) (h : EntAt w g e) (hm : 0 ≤ e.many ∧ e.many ≤ 2) :
    Calls Try.prog 22 #[.pointer (some ⟨g, 0, none⟩), .agg (encS s).toArray, .int .i64 now] w fun r w' =>
      r = .returned (.tuple #[]) ∧ EntAt w' g ⟨s, now, e.t0, min (e.many + 1) 2⟩ ∧ But [g] w w' := by
  obtain ⟨V, hV⟩ : ∃ V, V = w.alloc (.cells (encS s).toArray 31) := ⟨_, rfl⟩
  have HE : Hid (EntAt V g e) := by rw [hV]; exact Blk.alloc h _
  have HX : Hid (Blk V w.heap.size 31 (encS s)) := by rw [hV]; exact Blk.new w _ _
  have HB : Hid (But [g] w V) := by rw [hV]; exact (But.refl _ _).alloc _
  have HN : Hid (w.heap.size ≠ g) := by have := Blk.lt h; exact fun e => by omega
  have HV := Lib.hid hV
  clear hV h
  go_enter Try.func22, Try.ntmps22
  go_wp2_with fail
  rw [← HV.out]
  clear HV
  refine wp_region_until (S := fun _ => True) (B := [0, 1, 2, 3, 4, 5, 6, 7]) (by kernel_rfl) ?_
  refine wpAnyU_takeB (i := 0) (v := .pointer (some ⟨g, 0, none⟩)) rfl (by kernel_rfl) (by kernel_rfl) (by kernel_rfl) (by kernel_rfl) (fun _ _ _ h => h) (Or.inl ⟨by rfl, fun w => by go_simp⟩) ?_
  try simp only [Act.put, List.getElem_toArray, List.getElem_cons_succ, List.getElem_cons_zero, List.setIfInBounds_toArray, List.set_cons_zero, List.set_cons_succ]
  refine wpAnyU_takeB (i := 1) (v := .pointer (some ⟨g, 0, none⟩)) rfl (by kernel_rfl) (by kernel_rfl) (by kernel_rfl) (by kernel_rfl) (fun _ _ _ h => h) (Or.inl ⟨by rfl, fun w => by go_simp⟩) ?_
  try simp only [Act.put, List.getElem_toArray, List.getElem_cons_succ, List.getElem_cons_zero, List.setIfInBounds_toArray, List.set_cons_zero, List.set_cons_succ]
  refine wpAnyU_takeB (i := 2) (v := .pointer (some ⟨g, 32, none⟩)) rfl (by kernel_rfl) (by kernel_rfl) (by kernel_rfl) (by kernel_rfl) (fun _ _ _ h => h) (Or.inl ⟨by rfl, fun w => by go_simp⟩) ?_
  try simp only [Act.put, List.getElem_toArray, List.getElem_cons_succ, List.getElem_cons_zero, List.setIfInBounds_toArray, List.set_cons_zero, List.set_cons_succ]
  refine wpAnyU_takeB (i := 3) (v := .slice (some ⟨g, 33, none⟩) 1 1) rfl (by kernel_rfl) (by kernel_rfl) (by kernel_rfl) (by kernel_rfl) (fun _ _ _ h => h) (Or.inl ⟨by rfl, fun w => by go_simp⟩) ?_
  try simp only [Act.put, List.getElem_toArray, List.getElem_cons_succ, List.getElem_cons_zero, List.setIfInBounds_toArray, List.set_cons_zero, List.set_cons_succ]
  refine wpAnyU_takeB (i := 4) (v := .pointer (some ⟨g, 0, none⟩)) rfl (by kernel_rfl) (by kernel_rfl) (by kernel_rfl) (by kernel_rfl) (fun _ _ _ h => h) (Or.inl ⟨by rfl, fun w => by go_simp⟩) ?_
  try simp only [Act.put, List.getElem_toArray, List.getElem_cons_succ, List.getElem_cons_zero, List.setIfInBounds_toArray, List.set_cons_zero, List.set_cons_succ]
  refine wpAnyU_takeB (i := 5) (v := .pointer (some ⟨g, 0, none⟩)) rfl (by kernel_rfl) (by kernel_rfl) (by kernel_rfl) (by kernel_rfl) (fun _ _ _ h => h) (Or.inl ⟨by rfl, fun w => by go_simp⟩) ?_
  try simp only [Act.put, List.getElem_toArray, List.getElem_cons_succ, List.getElem_cons_zero, List.setIfInBounds_toArray, List.set_cons_zero, List.set_cons_succ]
  refine wpAnyU_takeB (i := 6) (v := .pointer (some ⟨g, 32, none⟩)) rfl (by kernel_rfl) (by kernel_rfl) (by kernel_rfl) (by kernel_rfl) (fun _ _ _ h => h) (Or.inl ⟨by rfl, fun w => by go_simp⟩) ?_
  try simp only [Act.put, List.getElem_toArray, List.getElem_cons_succ, List.getElem_cons_zero, List.setIfInBounds_toArray, List.set_cons_zero, List.set_cons_succ]
  refine wpAnyU_takeB (i := 7) (v := .slice (some ⟨g, 32, none⟩) 2 2) rfl (by kernel_rfl) (by kernel_rfl) (by kernel_rfl) (by kernel_rfl) (fun _ _ _ h => h) (Or.inl ⟨by rfl, fun w => by go_simp⟩) ?_
  try simp only [Act.put, List.getElem_toArray, List.getElem_cons_succ, List.getElem_cons_zero, List.setIfInBounds_toArray, List.set_cons_zero, List.set_cons_succ]
  refine wpAnyU_all (rs := [8]) (by kernel_rfl) (by simp) (all1 ?_)
  refine wpOpU_step rfl (fun K' hK => ?_)
  go_simp
  rw [copy_t V.drew g e HE.out]
  simp only [Result.andThen_ok]
  obtain ⟨V2, hV2⟩ : ∃ V2, V2 = V.drew.setCell ⟨g, 33, none⟩ (.int .i64 e.t0) := ⟨_, rfl⟩
  have HE2 : Hid (EntAt V2 g ⟨e.s, e.t0, e.t0, e.many⟩) := by rw [hV2]; exact Blk.set (w := V.drew) HE.out 33 _
  have HX2 : Hid (Blk V2 w.heap.size 31 (encS s)) := by rw [hV2]; exact Blk.set_other (w := V.drew) HX.out HN.out 33 _
  have HB2 : Hid (But [g] w V2) := by rw [hV2]; exact (HB.out.drewN 1).setCell g 33 _ (by simp)
  rw [← hV2]
  clear hV2 HE HX HB
  try go_simp
  refine hK _ _ trivial ?_
  clear hK K'
  try simp only [Act.put, List.getElem_toArray, List.getElem_cons_succ, List.getElem_cons_zero, List.setIfInBounds_toArray, List.set_cons_zero, List.set_cons_succ]
  refine wpAnyU_done (by kernel_rfl) ?_ _
  go_wp2_with fail
  refine wp_region_until (S := fun w' => EntAt w' g ⟨e.s, e.t0, e.t0, e.many⟩ ∧ Blk w' w.heap.size 31 (encS s)) (B := [0, 1, 2, 4, 5, 6, 7, 9, 10, 11, 12, 13, 14, 15, 16, 17, 18, 19, 20]) (by kernel_rfl) ?_
  refine wpAnyU_takeB (i := 0) (v := .pointer (some ⟨g, 0, none⟩)) rfl (by kernel_rfl) (by kernel_rfl) (by kernel_rfl) (by kernel_rfl) (fun _ _ _ h => h) (Or.inl ⟨by rfl, fun w => by go_simp⟩) ?_
  try simp only [Act.put, List.getElem_toArray, List.getElem_cons_succ, List.getElem_cons_zero, List.setIfInBounds_toArray, List.set_cons_zero, List.set_cons_succ]
  refine wpAnyU_takeB (i := 1) (v := .pointer (some ⟨g, 0, none⟩)) rfl (by kernel_rfl) (by kernel_rfl) (by kernel_rfl) (by kernel_rfl) (fun _ _ _ h => h) (Or.inl ⟨by rfl, fun w => by go_simp⟩) ?_
  try simp only [Act.put, List.getElem_toArray, List.getElem_cons_succ, List.getElem_cons_zero, List.setIfInBounds_toArray, List.set_cons_zero, List.set_cons_succ]
  refine wpAnyU_takeB (i := 2) (v := .pointer (some ⟨g, 0, none⟩)) rfl (by kernel_rfl) (by kernel_rfl) (by kernel_rfl) (by kernel_rfl) (fun _ _ _ h => h) (Or.inl ⟨by rfl, fun w => by go_simp⟩) ?_
  try simp only [Act.put, List.getElem_toArray, List.getElem_cons_succ, List.getElem_cons_zero, List.setIfInBounds_toArray, List.set_cons_zero, List.set_cons_succ]
  refine wpAnyU_takeB (i := 4) (v := .int .i64 now) rfl (by kernel_rfl) (by kernel_rfl) (by kernel_rfl) (by kernel_rfl) (fun _ _ _ h => h) (Or.inl ⟨by rfl, fun w => by go_simp⟩) ?_
  try simp only [Act.put, List.getElem_toArray, List.getElem_cons_succ, List.getElem_cons_zero, List.setIfInBounds_toArray, List.set_cons_zero, List.set_cons_succ]
  refine wpAnyU_takeB (i := 5) (v := .pointer (some ⟨g, 0, none⟩)) rfl (by kernel_rfl) (by kernel_rfl) (by kernel_rfl) (by kernel_rfl) (fun _ _ _ h => h) (Or.inl ⟨by rfl, fun w => by go_simp⟩) ?_
  try simp only [Act.put, List.getElem_toArray, List.getElem_cons_succ, List.getElem_cons_zero, List.setIfInBounds_toArray, List.set_cons_zero, List.set_cons_succ]
  refine wpAnyU_takeB (i := 6) (v := .pointer (some ⟨g, 0, none⟩)) rfl (by kernel_rfl) (by kernel_rfl) (by kernel_rfl) (by kernel_rfl) (fun _ _ _ h => h) (Or.inl ⟨by rfl, fun w => by go_simp⟩) ?_
  try simp only [Act.put, List.getElem_toArray, List.getElem_cons_succ, List.getElem_cons_zero, List.setIfInBounds_toArray, List.set_cons_zero, List.set_cons_succ]
  refine wpAnyU_takeB (i := 7) (v := .pointer (some ⟨g, 34, none⟩)) rfl (by kernel_rfl) (by kernel_rfl) (by kernel_rfl) (by kernel_rfl) (fun _ _ _ h => h) (Or.inl ⟨by rfl, fun w => by go_simp⟩) ?_
  try simp only [Act.put, List.getElem_toArray, List.getElem_cons_succ, List.getElem_cons_zero, List.setIfInBounds_toArray, List.set_cons_zero, List.set_cons_succ]
  refine wpAnyU_takeB (i := 14) (v := .pointer (some ⟨g, 0, none⟩)) rfl (by kernel_rfl) (by kernel_rfl) (by kernel_rfl) (by kernel_rfl) (fun _ _ _ h => h) (Or.inl ⟨by rfl, fun w => by go_simp⟩) ?_
  try simp only [Act.put, List.getElem_toArray, List.getElem_cons_succ, List.getElem_cons_zero, List.setIfInBounds_toArray, List.set_cons_zero, List.set_cons_succ]
  refine wpAnyU_takeB (i := 15) (v := .pointer (some ⟨g, 32, none⟩)) rfl (by kernel_rfl) (by kernel_rfl) (by kernel_rfl) (by kernel_rfl) (fun _ _ _ h => h) (Or.inl ⟨by rfl, fun w => by go_simp⟩) ?_
  try simp only [Act.put, List.getElem_toArray, List.getElem_cons_succ, List.getElem_cons_zero, List.setIfInBounds_toArray, List.set_cons_zero, List.set_cons_succ]
  refine wpAnyU_take (i := 8) (v := .int .i64 e.many) rfl (by kernel_rfl) (by kernel_rfl) (by kernel_rfl) (by kernel_rfl) (fun _ _ _ h => h) ⟨HE2.out, HX2.out⟩ (Or.inl ⟨by rfl, fun w hw => by have h8 := hw.1.many; go_simp⟩) ?_
  try simp only [Act.put, List.getElem_toArray, List.getElem_cons_succ, List.getElem_cons_zero, List.setIfInBounds_toArray, List.set_cons_zero, List.set_cons_succ]
  refine wpAnyU_takeB (i := 9) (v := .int .i64 (IntKind.i64.wrap (e.many + 1))) rfl (by kernel_rfl) (by kernel_rfl) (by kernel_rfl) (by kernel_rfl) (fun _ _ _ h => h) (Or.inl ⟨by rfl, fun w => by go_simp⟩) ?_
  try simp only [Act.put, List.getElem_toArray, List.getElem_cons_succ, List.getElem_cons_zero, List.setIfInBounds_toArray, List.set_cons_zero, List.set_cons_succ]
  refine wpAnyU_takeB (i := 10) (v := .int .i64 (min (IntKind.i64.wrap (e.many + 1)) 2)) rfl (by kernel_rfl) (by kernel_rfl) (by kernel_rfl) (by kernel_rfl) (fun _ _ _ h => h) (Or.inl ⟨by rfl, fun w => by go_simp⟩) ?_
  try simp only [Act.put, List.getElem_toArray, List.getElem_cons_succ, List.getElem_cons_zero, List.setIfInBounds_toArray, List.set_cons_zero, List.set_cons_succ]
  refine wpAnyU_take (i := 3) (v := .agg (encS s).toArray) rfl (by kernel_rfl) (by kernel_rfl) (by kernel_rfl) (by kernel_rfl) (fun _ _ _ h => h) ⟨HE2.out, HX2.out⟩ (yieldsIf_load_mid (by rfl) 31 (.tmp 4) rfl w.heap.size 0 rfl (encS s) _ (fun w hw => hw.2.all) Try.underlying31 rfl (by kernel_rfl)) ?_
  try simp only [Act.put, List.getElem_toArray, List.getElem_cons_succ, List.getElem_cons_zero, List.setIfInBounds_toArray, List.set_cons_zero, List.set_cons_succ]
  refine wpAnyU_takeB (i := 11) (v := .pointer (some ⟨g, 0, none⟩)) rfl (by kernel_rfl) (by kernel_rfl) (by kernel_rfl) (by kernel_rfl) (fun _ _ _ h => h) (Or.inl ⟨by rfl, fun w => by go_simp⟩) ?_
  try simp only [Act.put, List.getElem_toArray, List.getElem_cons_succ, List.getElem_cons_zero, List.setIfInBounds_toArray, List.set_cons_zero, List.set_cons_succ]
  refine wpAnyU_takeB (i := 12) (v := .pointer (some ⟨g, 0, none⟩)) rfl (by kernel_rfl) (by kernel_rfl) (by kernel_rfl) (by kernel_rfl) (fun _ _ _ h => h) (Or.inl ⟨by rfl, fun w => by go_simp⟩) ?_
  try simp only [Act.put, List.getElem_toArray, List.getElem_cons_succ, List.getElem_cons_zero, List.setIfInBounds_toArray, List.set_cons_zero, List.set_cons_succ]
  refine wpAnyU_all (rs := [13]) (by kernel_rfl) (by simp) (all1 ?_)
  refine wpOpU_stepB rfl (by kernel_rfl) (fun K' hK => ?_)
  rw [if_pos (by rfl)]
  have ht := Blk.there (w := V2.drew) HE2.out 0 32 (by rw [encE_len]; omega)
  refine wp_store_mid 31 (.tmp 27) (.tmp 18) rfl g 0 (encS s).toArray rfl rfl ht (by kernel_rfl) (all_oneCell_toArray (encS_one s)) ?_
  refine hK _ _ ?_
  clear hK K' ht
  obtain ⟨V3, hV3⟩ : ∃ V3, V3 = V2.drew.setCells g 0 (encS s).toArray.toList := ⟨_, rfl⟩
  have HE3 : Hid (EntAt V3 g ⟨s, e.t0, e.t0, e.many⟩) := by
    rw [hV3]
    have := Blk.sets (encS s) (w := V2.drew) (i := 0) HE2.out
    have e1 := putL_all (encS s) (encS e.s) [.int .i64 e.t0, .int .i64 e.t0, .int .i64 e.many] [] rfl
    rw [show putL (encE ⟨e.s, e.t0, e.t0, e.many⟩) 0 (encS s) = encE ⟨s, e.t0, e.t0, e.many⟩ from e1] at this
    exact this
  have HB3 : Hid (But [g] w V3) := by rw [hV3]; exact But.setCells g (by simp) _ 0 (HB2.out.drewN 1)
  rw [← hV3]
  clear hV3 HE2 HB2 HX2
  try simp only [Act.put, List.getElem_toArray, List.getElem_cons_succ, List.getElem_cons_zero, List.setIfInBounds_toArray, List.set_cons_zero, List.set_cons_succ]
  refine wpAnyU_takeB (i := 16) (v := .pointer (some ⟨g, 32, none⟩)) rfl (by kernel_rfl) (by kernel_rfl) (by kernel_rfl) (by kernel_rfl) (fun _ _ _ h => h) (Or.inl ⟨by rfl, fun w => by go_simp⟩) ?_
  try simp only [Act.put, List.getElem_toArray, List.getElem_cons_succ, List.getElem_cons_zero, List.setIfInBounds_toArray, List.set_cons_zero, List.set_cons_succ]
  have c0 := HE3.out.t0
  have f0 := Blk.frozen HE3.out 32
  refine wpAnyU_all (rs := [17]) (by kernel_rfl) (by simp) (all1 ?_)
  refine wpOpU_stepB rfl (by kernel_rfl) (fun K' hK => ?_)
  go_simp
  clear c0 f0
  obtain ⟨V4, hV4⟩ : ∃ V4, V4 = V3.setCell ⟨g, 32, none⟩ (.int .i64 now) := ⟨_, rfl⟩
  have HE4 : Hid (EntAt V4 g ⟨s, now, e.t0, e.many⟩) := by rw [hV4]; exact Blk.set HE3.out 32 _
  have HB4 : Hid (But [g] w V4) := by rw [hV4]; exact HB3.out.setCell g 32 _ (by simp)
  rw [← hV4]
  clear hV4 HE3 HB3
  refine hK _ _ ?_
  clear hK K'
  try simp only [Act.put, List.getElem_toArray, List.getElem_cons_succ, List.getElem_cons_zero, List.setIfInBounds_toArray, List.set_cons_zero, List.set_cons_succ]
  refine wpAnyU_takeB (i := 18) (v := .pointer (some ⟨g, 0, none⟩)) rfl (by kernel_rfl) (by kernel_rfl) (by kernel_rfl) (by kernel_rfl) (fun _ _ _ h => h) (Or.inl ⟨by rfl, fun w => by go_simp⟩) ?_
  try simp only [Act.put, List.getElem_toArray, List.getElem_cons_succ, List.getElem_cons_zero, List.setIfInBounds_toArray, List.set_cons_zero, List.set_cons_succ]
  refine wpAnyU_takeB (i := 19) (v := .pointer (some ⟨g, 34, none⟩)) rfl (by kernel_rfl) (by kernel_rfl) (by kernel_rfl) (by kernel_rfl) (fun _ _ _ h => h) (Or.inl ⟨by rfl, fun w => by go_simp⟩) ?_
  try simp only [Act.put, List.getElem_toArray, List.getElem_cons_succ, List.getElem_cons_zero, List.setIfInBounds_toArray, List.set_cons_zero, List.set_cons_succ]
  have c0 := HE4.out.many
  have f0 := Blk.frozen HE4.out 34
  refine wpAnyU_all (rs := [20]) (by kernel_rfl) (by simp) (all1 ?_)
  refine wpOpU_stepB rfl (by kernel_rfl) (fun K' hK => ?_)
  go_simp
  clear c0 f0
  obtain ⟨V5, hV5⟩ : ∃ V5, V5 = V4.setCell ⟨g, 34, none⟩ (.int .i64 (min (IntKind.i64.wrap (e.many + 1)) 2)) := ⟨_, rfl⟩
  have HE5 : Hid (EntAt V5 g ⟨s, now, e.t0, min (IntKind.i64.wrap (e.many + 1)) 2⟩) := by rw [hV5]; exact Blk.set HE4.out 34 _
  have HB5 : Hid (But [g] w V5) := by rw [hV5]; exact HB4.out.setCell g 34 _ (by simp)
  rw [← hV5]
  clear hV5 HE4 HB4
  refine hK _ _ ?_
  clear hK K'
  try simp only [Act.put, List.getElem_toArray, List.getElem_cons_succ, List.getElem_cons_zero, List.setIfInBounds_toArray, List.set_cons_zero, List.set_cons_succ]
  refine wpAnyU_done (by kernel_rfl) ?_ _
  go_end0
  have e1 := HE5.out
  rw [wrap_in (by omega) (by omega)] at e1
  exact ⟨rfl, e1, HB5.out⟩
end Go.Proofs.Ytmjmoihggojpiaa
