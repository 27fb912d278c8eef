/- The walks of over: the order by age; slices.MinFunc. -/
import Derived.Test.YtmjmoihggojpiaaForWalkD
set_option linter.unusedSimpArgs false
set_option linter.unusedVariables false
namespace Go.Proofs.Ytmjmoihggojpiaa
open Go Go.Maps Go.RowKit Go.Shelf Go.Sort Go.Lib

set_option maxRecDepth 100000 in
set_option maxHeartbeats 2000000 in
theorem over1_t {base : Nat} {w : World} {T : Nat} {own : List Int} {win : Int} {mb : Nat} {l : List (En × Nat)} (h : TabAt base w T own win mb l) (Bt : Nat) (hb : w.cell? ⟨Bt, 0, none⟩ = some (.pointer (some ⟨T, 0, none⟩)))
    (x y : En × Nat) (hx : x ∈ l) (hy : y ∈ l) :
    Calls Try.prog 32 #[.agg (encP (keyX x)).toArray, .agg (encP (keyX y)).toArray, .pointer (some ⟨Bt, 0, none⟩)] w fun r w' => r = .returned (.int .i64 (x.1.t0 - y.1.t0)) ∧ Gr w w' := by
  obtain ⟨V, hV⟩ : ∃ V, V = (w.alloc (.cells (encP (keyX x)).toArray 29)).alloc (.cells (encP (keyX y)).toArray 29) := ⟨_, rfl⟩
  have hG : Gr w V := by rw [hV]; exact ((Gr.refl w).alloc _).alloc _
  have hTV : TabAt base V T own win mb l := h.below hG.below (Nat.le_refl _)
  have hX : V.heap[w.heap.size]? = some (.cells (encP (keyX x)).toArray 29 (0, 0)) := by rw [hV, Below.heap_alloc _ _ _ (by simp)]; exact World.alloc_heap_new w _
  have hY : V.heap[w.heap.size + 1]? = some (.cells (encP (keyX y)).toArray 29 (0, 0)) := by
    rw [hV]; have := World.alloc_heap_new (w.alloc (.cells (encP (keyX x)).toArray 29)) (.cells (encP (keyX y)).toArray 29); rwa [World.size_alloc] at this
  obtain ⟨x0, x1, x2, x3, x4, x5, x6, x7, x8⟩ := nine_cells hX
  obtain ⟨y0, y1, y2, y3, y4, y5, y6, y7, y8⟩ := nine_cells hY
  have c9 := hTV.cmap
  have cb : V.cell? ⟨Bt, 0, none⟩ = some (.pointer (some ⟨T, 0, none⟩)) := cell_gr hG hb
  have lookx : ∀ n, (Instr.lookup 61 (.map (some mb)) (.agg (encP (keyX x)).toArray) false).run Try.prog (V.drewN n) = .ok (.pointer (some ⟨x.2, 0, none⟩)) (V.drewN n) := fun n => (hTV.drewN n).look1 hx
  have looky : ∀ n, (Instr.lookup 61 (.map (some mb)) (.agg (encP (keyX y)).toArray) false).run Try.prog (V.drewN n) = .ok (.pointer (some ⟨y.2, 0, none⟩)) (V.drewN n) := fun n => (hTV.drewN n).look1 hy
  have HEX := Lib.hid (hTV.ents x hx)
  have HEY := Lib.hid (hTV.ents y hy)
  have tx := h.times x hx
  have ty := h.times y hy
  have wr : IntKind.i64.wrap (x.1.t0 - y.1.t0) = x.1.t0 - y.1.t0 := wrap_in (by omega) (by omega)
  generalize keyX x = p at *
  generalize keyX y = q at *
  have HV := Lib.hid hV
  have HG := Lib.hid hG
  clear h hV hTV hG hX hY tx ty hx hy hb
  go_enter Try.func32, Try.ntmps32
  go_wp2_with fail
  rw [← HV.out]
  clear HV
  go_quiet ((go_at_call 21; first | exact quiet_left (last_t _ x.2 x.1 HEX.out) | exact quiet_left (last_t _ y.2 y.1 HEY.out)))
  go_wp2_with fail
  go_ret
  exact ⟨rfl, HG.out.drewN _⟩
end Go.Proofs.Ytmjmoihggojpiaa
