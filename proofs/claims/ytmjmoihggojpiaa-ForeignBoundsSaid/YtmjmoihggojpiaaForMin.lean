/- The walk of slices.MinFunc at over's order. -/
import Derived.Test.YtmjmoihggojpiaaForOver
set_option linter.unusedSimpArgs false
set_option linter.unusedVariables false
namespace Go.Proofs.Ytmjmoihggojpiaa
open Go Go.Maps Go.RowKit Go.Shelf Go.Sort Go.Lib

def bestX : En × Nat → List (En × Nat) → En × Nat
  | m, [] => m
  | m, x :: l => bestX (if x.1.t0 < m.1.t0 then x else m) l
theorem bestX_snoc (m : En × Nat) (l : List (En × Nat)) (x : En × Nat) : bestX m (l ++ [x]) = if x.1.t0 < (bestX m l).1.t0 then x else bestX m l := by
  induction l generalizing m with
  | nil => rfl
  | cons y l ih => exact ih _
theorem bestX_mem (m : En × Nat) (l : List (En × Nat)) : bestX m l ∈ m :: l := by
  induction l generalizing m with
  | nil => simp [bestX]
  | cons y l ih =>
    unfold bestX
    have := ih (if y.1.t0 < m.1.t0 then y else m)
    rw [List.mem_cons] at this ⊢
    rcases this with h | h
    · rw [h]; split
      · exact .inr (List.mem_cons_self)
      · exact .inl rfl
    · exact .inr (List.mem_cons_of_mem _ h)
theorem bestX_fst (m : En × Nat) (l : List (En × Nat)) : (bestX m l).1 = best m.1 (l.map (·.1)) := by
  induction l generalizing m with
  | nil => rfl
  | cons y l ih =>
    unfold bestX
    rw [ih, List.map_cons, best]
    congr 1
    split <;> rfl
theorem bestX_take (c : En × Nat) (rest : List (En × Nat)) (k : Nat) (hk : k < rest.length) : bestX c (rest.take (k + 1)) = if (rest[k]!).1.t0 < (bestX c (rest.take k)).1.t0 then rest[k]! else bestX c (rest.take k) := by
  rw [List.take_add_one, List.getElem?_eq_getElem hk, Option.toList_some, bestX_snoc]
  simp [hk]
theorem portBlk {w : World} {v : Value} {ps : List Pt} (h : PortsAt w v ps) (hne : ps ≠ []) : ∃ g cap, v = .slice (some ⟨g, 0, none⟩) ps.length cap ∧ g < w.heap.size ∧ ∀ i, i < ps.length → w.rangeAt g (i * 9) (encP ps[i]!) := by
  rcases h with h | h
  · exact absurd h.1 hne
  · exact h

theorem nineR {w : World} {B : Nat} {p : Pt} (h : w.rangeAt B 0 (encP p)) : Nine w B p := by
  refine ⟨?_, ?_, ?_, ?_, ?_, ?_, ?_, ?_, ?_⟩
  · exact h 0 _ rfl
  · exact h 1 _ rfl
  · exact h 2 _ rfl
  · exact h 3 _ rfl
  · exact h 4 _ rfl
  · exact h 5 _ rfl
  · exact h 6 _ rfl
  · exact h 7 _ rfl
  · exact h 8 _ rfl

theorem nineAt {w : World} {B o : Nat} {p : Pt} (h : w.rangeAt B o (encP p)) : w.cell? ⟨B, o, none⟩ = some (.int .u8 p.a0) ∧ w.cell? ⟨B, o + 1, none⟩ = some (.int .u8 p.a1) ∧ w.cell? ⟨B, o + 2, none⟩ = some (.int .u8 p.a2) ∧ w.cell? ⟨B, o + 3, none⟩ = some (.int .u8 p.a3) ∧ w.cell? ⟨B, o + 4, none⟩ = some (.int .u8 p.a4) ∧
    w.cell? ⟨B, o + 5, none⟩ = some (.int .u8 p.a5) ∧ w.cell? ⟨B, o + 6, none⟩ = some (.int .u8 p.a6) ∧ w.cell? ⟨B, o + 7, none⟩ = some (.int .u8 p.a7) ∧ w.cell? ⟨B, o + 8, none⟩ = some (.int .i64 p.n) := by
  refine ⟨?_, ?_, ?_, ?_, ?_, ?_, ?_, ?_, ?_⟩
  · exact h 0 _ rfl
  · exact h 1 _ rfl
  · exact h 2 _ rfl
  · exact h 3 _ rfl
  · exact h 4 _ rfl
  · exact h 5 _ rfl
  · exact h 6 _ rfl
  · exact h 7 _ rfl
  · exact h 8 _ rfl

set_option maxRecDepth 100000 in
set_option maxHeartbeats 4000000 in
theorem minFunc_t {base : Nat} {w : World} {T : Nat} {own : List Int} {win : Int} {mb : Nat} {l : List (En × Nat)} (h : TabAt base w T own win mb l) (Bt : Nat) (hb : w.cell? ⟨Bt, 0, none⟩ = some (.pointer (some ⟨T, 0, none⟩)))
    (c : En × Nat) (rest : List (En × Nat)) (hes : ∀ x ∈ c :: rest, x ∈ l) (hsz : (c :: rest).length ≤ 5) (v : Value) (hv : PortsAt w v ((c :: rest).map keyX)) :
    Calls Try.prog 31 #[v, .func (.func 32) #[] #[.pointer (some ⟨Bt, 0, none⟩)]] w fun r w' => r = .returned (.agg (encP (keyX (bestX c rest))).toArray) ∧ Below w.heap.size w w' := by
  obtain ⟨g, cap, rfl, hg, hcells⟩ := portBlk hv (by simp)
  rw [List.length_map] at hcells ⊢
  obtain ⟨n, hn⟩ : ∃ n, n = (c :: rest).length := ⟨_, rfl⟩
  rw [← hn] at hsz hcells ⊢
  have hn1 : 1 ≤ n := by rw [hn]; simp
  have hBt : Bt < w.heap.size := World.block_lt_of_cell? w _ hb
  have H := Lib.hid (And.intro h (And.intro hb (And.intro hes hcells)))
  have c0 : w.rangeAt g 0 (encP (keyX c)) := by
    have := hcells 0 (by omega)
    simpa using this
  obtain ⟨x0, x1, x2, x3, x4, x5, x6, x7, x8⟩ := nineR c0
  generalize hp : keyX c = p at x0 x1 x2 x3 x4 x5 x6 x7 x8
  have z1 : decide ((n : Int) < 1) = false := decide_eq_false (by omega)
  obtain ⟨V, hV⟩ : ∃ V, V = (w.alloc (.cells (encP ⟨0, 0, 0, 0, 0, 0, 0, 0, 0⟩).toArray 29)).alloc (.cells (encP p).toArray 29) := ⟨_, rfl⟩
  have HN := Lib.hid (And.intro hn (And.intro hp hV))
  clear h hb hes hcells hv hn hp c0 hV
  go_enter Try.func31, Try.ntmps31
  go_wp2_with fail
  rw [← HN.out.2.2]
  have lV : V.heap.size = w.heap.size + 2 := by rw [HN.out.2.2]; simp
  have BV : Below w.heap.size w V := by rw [HN.out.2.2]; exact ((Below.refl _ w).alloc (Nat.le_refl _) _).alloc (by simp) _
  have B0 : Blk V w.heap.size 29 (encP ⟨0, 0, 0, 0, 0, 0, 0, 0, 0⟩) := by rw [HN.out.2.2]; exact (Blk.new w _ _).alloc _
  have B1 : Blk V (w.heap.size + 1) 29 (encP (keyX c)) := by
    rw [HN.out.2.2, HN.out.2.1]
    have := Blk.new (w.alloc (.cells (encP ⟨0, 0, 0, 0, 0, 0, 0, 0, 0⟩).toArray 29)) 29 (encP p)
    rwa [World.size_alloc] at this
  have HVB := Lib.hid (And.intro BV (And.intro B0 B1))
  clear BV B0 B1 z1 x0 x1 x2 x3 x4 x5 x6 x7 x8
  go_loopw [6] (fun i wr => ∃ k : Nat, 1 ≤ k ∧ k ≤ n ∧ i = .int .i64 k ∧ Hid (Blk wr (w.heap.size + 1) 29 (encP (keyX (bestX c (rest.take (k - 1))))) ∧ Blk wr w.heap.size 29 (encP ⟨0, 0, 0, 0, 0, 0, 0, 0, 0⟩) ∧ Below w.heap.size w wr)) (fun i _ => n - (intOf i).toNat)
  case atStart => exact ⟨1, Nat.le_refl _, hn1, rfl, by simpa [bestX] using HVB.out.2.2, HVB.out.2.1, HVB.out.1⟩
  case round =>
    obtain ⟨k, hk1, hk, rfl, HR⟩ := hrel
    obtain ⟨m, hm⟩ : ∃ m, m = bestX c (rest.take (k - 1)) := ⟨_, rfl⟩
    rw [← hm] at HR
    by_cases hlt : k < n
    · obtain ⟨x, hx⟩ : ∃ x, x = rest[k - 1]! := ⟨_, rfl⟩
      have hk' : k - 1 < rest.length := by have := HN.out.1; simp at this; omega
      have hxm : x ∈ l := H.out.2.2.1 x (by rw [hx, getElem!_pos rest (k - 1) hk']; exact List.mem_cons_of_mem _ (List.getElem_mem _))
      have hml : m ∈ l := H.out.2.2.1 m (by
        rw [hm]
        have := bestX_mem c (rest.take (k - 1))
        rw [List.mem_cons] at this ⊢
        exact this.imp id fun h => List.mem_of_mem_take h)
      have hX : wr.rangeAt g (k * 9) (encP (keyX x)) := by
        have h1 := H.out.2.2.2 k hlt
        have e : ((c :: rest).map keyX)[k]! = keyX x := by
          obtain ⟨j, rfl⟩ : ∃ j, k = j + 1 := ⟨k - 1, by omega⟩
          have hj : j < rest.length := by simpa using hk'
          rw [hx]
          simp [hj]
        rw [e] at h1
        exact fun j v hv => (HR.out.2.2.cell (p := ⟨g, k * 9 + j, none⟩) hg).trans (h1 j v hv)
      have HX := Lib.hid hX
      have HM := Lib.hid (And.intro hxm (And.intro hml (And.intro hm hx)))
      clear hX hxm hml hm hx hk'
      have z2 : decide ((k : Int) < n) = true := decide_eq_true (by omega)
      have k0 : (0 : Int) ≤ (k : Int) := by omega
      have k1 : (k : Int) < n := by omega
      go_wp2_with fail
      refine wp_region_until (S := fun w' => Gr wr w') (B := [0, 1, 2, 3]) (by kernel_rfl) ?_
      refine wpAnyU_takeB (i := 0) (v := .func (.func 32) #[] #[.pointer (some ⟨Bt, 0, none⟩)]) rfl (by kernel_rfl) (by kernel_rfl) (by kernel_rfl) (by kernel_rfl) (fun _ _ _ h => h) (Or.inl ⟨by rfl, fun w => by go_simp⟩) ?_
      try simp only [Act.put, List.getElem_toArray, List.getElem_cons_succ, List.getElem_cons_zero, List.setIfInBounds_toArray, List.set_cons_zero, List.set_cons_succ]
      refine wpAnyU_takeB (i := 1) (v := .slice (some ⟨g, 0, none⟩) n cap) rfl (by kernel_rfl) (by kernel_rfl) (by kernel_rfl) (by kernel_rfl) (fun _ _ _ h => h) (Or.inl ⟨by rfl, fun w => by go_simp⟩) ?_
      try simp only [Act.put, List.getElem_toArray, List.getElem_cons_succ, List.getElem_cons_zero, List.setIfInBounds_toArray, List.set_cons_zero, List.set_cons_succ]
      refine wpAnyU_takeB (i := 2) (v := .int .i64 k) rfl (by kernel_rfl) (by kernel_rfl) (by kernel_rfl) (by kernel_rfl) (fun _ _ _ h => h) (Or.inl ⟨by rfl, fun w => by go_simp⟩) ?_
      try simp only [Act.put, List.getElem_toArray, List.getElem_cons_succ, List.getElem_cons_zero, List.setIfInBounds_toArray, List.set_cons_zero, List.set_cons_succ]
      refine wpAnyU_takeB (i := 3) (v := .pointer (some ⟨g, k * 9, none⟩)) rfl (by kernel_rfl) (by kernel_rfl) (by kernel_rfl) (by kernel_rfl) (fun _ _ _ h => h) (Or.inl ⟨by rfl, fun w => by go_simp⟩) ?_
      try simp only [Act.put, List.getElem_toArray, List.getElem_cons_succ, List.getElem_cons_zero, List.setIfInBounds_toArray, List.set_cons_zero, List.set_cons_succ]
      refine wpAnyU_take (i := 4) (v := .agg (encP (keyX x)).toArray) rfl (by kernel_rfl) (by kernel_rfl) (by kernel_rfl) (by kernel_rfl) (fun _ _ _ h => h) ((Gr.refl wr).drewN 1) (yieldsIf_load_mid (by rfl) 29 (.tmp 23) rfl g (k * 9) rfl (encP (keyX x)) _ (fun w hw => rangeAt_gr hw HX.out) Try.underlying29 rfl (by kernel_rfl)) ?_
      try simp only [Act.put, List.getElem_toArray, List.getElem_cons_succ, List.getElem_cons_zero, List.setIfInBounds_toArray, List.set_cons_zero, List.set_cons_succ]
      refine wpAnyU_take (i := 5) (v := .agg (encP (keyX m)).toArray) rfl (by kernel_rfl) (by kernel_rfl) (by kernel_rfl) (by kernel_rfl) (fun _ _ _ h => h) ((Gr.refl wr).drewN 1) (yieldsIf_load_mid (by rfl) 29 (.tmp 5) rfl (w.heap.size + 1) 0 rfl (encP (keyX m)) _ (fun w hw => (HR.out.1.gr hw).all) Try.underlying29 rfl (by kernel_rfl)) ?_
      try simp only [Act.put, List.getElem_toArray, List.getElem_cons_succ, List.getElem_cons_zero, List.setIfInBounds_toArray, List.set_cons_zero, List.set_cons_succ]
      refine wpAnyU_all (rs := [6]) (by kernel_rfl) (by simp) (all1 ?_)
      refine wpOpU_step rfl (fun K' hK => ?_)
      go_simp
      refine (over1_t ((H.out.1.below HR.out.2.2 (Nat.le_refl _)).drewN 1) Bt (cell_gr ((Gr.refl wr).drewN 1) ((HR.out.2.2.cell hBt).trans H.out.2.1)) x m HM.out.1 HM.out.2.1).mono ?_
      rintro e w1 ⟨rfl, hg1⟩
      have HG1 := Lib.hid (((Gr.refl wr).drewN 1).trans hg1)
      clear hg1
      try go_simp
      refine hK _ _ HG1.out ?_
      clear hK K'
      try simp only [Act.put, List.getElem_toArray, List.getElem_cons_succ, List.getElem_cons_zero, List.setIfInBounds_toArray, List.set_cons_zero, List.set_cons_succ]
      refine wpAnyU_all (rs := [7]) (by kernel_rfl) (by simp) (all1 ?_)
      refine wpOpU_step rfl (fun K' hK => ?_)
      go_simp
      refine hK _ _ HG1.out ?_
      clear hK K'
      try simp only [Act.put, List.getElem_toArray, List.getElem_cons_succ, List.getElem_cons_zero, List.setIfInBounds_toArray, List.set_cons_zero, List.set_cons_succ]
      refine wpAnyU_done (by kernel_rfl) ?_ _
      have HR1 : Hid (Blk w1 (w.heap.size + 1) 29 (encP (keyX m)) ∧ Blk w1 w.heap.size 29 (encP ⟨0, 0, 0, 0, 0, 0, 0, 0, 0⟩) ∧ Below w.heap.size w w1) := ⟨HR.out.1.gr HG1.out, HR.out.2.1.gr HG1.out, HR.out.2.2.trans (HG1.out.below.mono HR.out.2.2.size)⟩
      have HX1 := Lib.hid (rangeAt_gr HG1.out HX.out)
      have hbs : bestX c (rest.take (k + 1 - 1)) = if x.1.t0 < m.1.t0 then x else m := by
        obtain ⟨j, rfl⟩ : ∃ j, k = j + 1 := ⟨k - 1, by omega⟩
        have hj : j < rest.length := by have := HN.out.1; simp at this; omega
        have := bestX_take c rest j hj
        rw [show j + 1 + 1 - 1 = j + 1 by omega, this, HM.out.2.2.1, HM.out.2.2.2, show j + 1 - 1 = j by omega]
      have HBS := Lib.hid hbs
      clear hbs HR HX
      by_cases hless : x.1.t0 < m.1.t0
      · have z3 : x.1.t0 - m.1.t0 < 0 := by omega
        have HL := Lib.hid hless
        clear hless
        obtain ⟨a0, a1, a2, a3, a4, a5, a6, a7, a8⟩ := nineAt HX1.out
        obtain ⟨b0, b1, b2, b3, b4, b5, b6, b7, b8⟩ := nineR HR1.out.1.all
        have f := fun i => HR1.out.1.frozen i
        go_wp2_with fail
        go_roundw
        case rel =>
          refine ⟨k + 1, by omega, by omega, by go_num, ?_⟩
          rw [HBS.out, if_pos HL.out]
          refine ⟨?_, (((((((((HR1.out.2.1.set_other (by omega) _ _).set_other (by omega) _ _).set_other (by omega) _ _).set_other (by omega) _ _).set_other (by omega) _ _).set_other (by omega) _ _).set_other (by omega) _ _).set_other (by omega) _ _).set_other (by omega) _ _), ?_⟩
          · exact ((((((((HR1.out.1.set 0 _).set 1 _).set 2 _).set 3 _).set 4 _).set 5 _).set 6 _).set 7 _).set 8 _
          · exact HR1.out.2.2.trans (((((((((((Below.refl w.heap.size w1).setCell (by simp) _).setCell (by simp) _).setCell (by simp) _).setCell (by simp) _).setCell (by simp) _).setCell (by simp) _).setCell (by simp) _).setCell (by simp) _).setCell (by simp) _))
        case measure => simp [intOf]; omega
      · have z3 : 0 ≤ x.1.t0 - m.1.t0 := by omega
        have HL := Lib.hid hless
        clear hless
        go_wp2_with fail
        go_roundw
        case rel => exact ⟨k + 1, by omega, by omega, by go_num, by rw [HBS.out, if_neg HL.out]; exact HR1.out⟩
        case measure => simp [intOf]; omega
    · obtain rfl : k = n := by omega
      have hm2 : m = bestX c rest := by
        rw [hm]
        have := HN.out.1
        rw [List.take_of_length_le (by simp at this; omega)]
      have HM2 := Lib.hid hm2
      clear hm hm2
      generalize hq : keyX m = q at HR
      have HQ := Lib.hid hq
      clear hq
      have z2 : decide ((k : Int) < k) = false := decide_eq_false (by omega)
      obtain ⟨b0, b1, b2, b3, b4, b5, b6, b7, b8⟩ := nineR HR.out.1.all
      obtain ⟨y0, y1, y2, y3, y4, y5, y6, y7, y8⟩ := nineR HR.out.2.1.all
      have f := fun i => HR.out.2.1.frozen i
      go_wp2_with fail
      obtain ⟨W9, hW9⟩ : ∃ W9, W9 = ((((((((wr.setCell ⟨w.heap.size, 0, none⟩ (.int .u8 q.a0)).setCell ⟨w.heap.size, 1, none⟩ (.int .u8 q.a1)).setCell ⟨w.heap.size, 2, none⟩ (.int .u8 q.a2)).setCell ⟨w.heap.size, 3, none⟩ (.int .u8 q.a3)).setCell ⟨w.heap.size, 4, none⟩ (.int .u8 q.a4)).setCell ⟨w.heap.size, 5, none⟩ (.int .u8 q.a5)).setCell ⟨w.heap.size, 6, none⟩ (.int .u8 q.a6)).setCell ⟨w.heap.size, 7, none⟩ (.int .u8 q.a7)).setCell ⟨w.heap.size, 8, none⟩ (.int .i64 q.n) := ⟨_, rfl⟩
      have hBk : Blk W9 w.heap.size 29 (encP q) := by rw [hW9]; exact ((((((((HR.out.2.1.set 0 _).set 1 _).set 2 _).set 3 _).set 4 _).set 5 _).set 6 _).set 7 _).set 8 _
      have hBe : Below w.heap.size w W9 := by
        rw [hW9]
        exact HR.out.2.2.trans (((((((((((Below.refl w.heap.size wr).setCell (by simp) _).setCell (by simp) _).setCell (by simp) _).setCell (by simp) _).setCell (by simp) _).setCell (by simp) _).setCell (by simp) _).setCell (by simp) _).setCell (by simp) _))
      rw [← hW9]
      refine bodyPost_ret (results_cell_row rfl _ W9 w.heap.size 29 (encP q).toArray (0, 0) _ rfl hBk Try.underlying29 rfl (by kernel_rfl)) rfl ?_
      exact ⟨by rw [← HM2.out, HQ.out], hBe⟩
end Go.Proofs.Ytmjmoihggojpiaa
