/- The walk of (*Table).over. -/
import Derived.Test.YtmjmoihggojpiaaForMin
set_option linter.unusedSimpArgs false
set_option linter.unusedVariables false
namespace Go.Proofs.Ytmjmoihggojpiaa
open Go Go.Maps Go.RowKit Go.Shelf Go.Sort Go.Lib

theorem grown_of_below {w w' : World} (h : Below w.heap.size w w') : w.grownBy w' none := ⟨h.os, h.tape, h.output, h.size, fun k hk _ => h.block k hk⟩
theorem ownsRow_below {w w' : World} {base : Nat} {e : TypeId} {size : Nat} {v : Value} {n : Nat} {xs : List Value} (h : w.ownsRow base e size v n xs) (hb : Below w.heap.size w w') : w'.ownsRow base e size v n xs := h.kept (grown_of_below hb) (by cases v <;> simp [Value.ownBlock] <;> (rename_i a _ _; cases a <;> simp [Value.ownBlock]))
theorem below_drewN {B : Nat} {a b : World} (h : Below B a b) (n : Nat) : Below B a (b.drewN n) := ⟨h.os, h.tape, h.output, h.size, h.block⟩
theorem results_cell2 {fn : Func} {p u : Tmp} {ty : TypeId} (h : fn.results = #[.cell p ty, .tmp u]) (tmps : Array Value) (w : World) (g : Nat) (t : TypeId) (cs : List Value) (d : TypeDesc)
    (hp : tmps.getD p undef = .pointer (some ⟨g, 0, none⟩)) (hg : Blk w g t cs) (hu : Try.prog.underlying ty = some d) (hd : d.isRow = true) (hi : (Try.prog.info? ty).map (·.size) = some cs.length) :
    (results fn tmps).run Try.prog w = .ok (.tuple #[.agg cs.toArray, tmps.getD u undef]) w := by
  rw [results_cell_tmp h, hp]
  simp [asAddr, Result.andThen, run_loadVar_mid w g 0 ty cs d hg.all hu hd hi]
/-- Nine stores. -/
def put9 (w : World) (g : Nat) (q : Pt) : World := ((((((((w.setCell ⟨g, 0, none⟩ (.int .u8 q.a0)).setCell ⟨g, 1, none⟩ (.int .u8 q.a1)).setCell ⟨g, 2, none⟩ (.int .u8 q.a2)).setCell ⟨g, 3, none⟩ (.int .u8 q.a3)).setCell ⟨g, 4, none⟩ (.int .u8 q.a4)).setCell ⟨g, 5, none⟩ (.int .u8 q.a5)).setCell ⟨g, 6, none⟩ (.int .u8 q.a6)).setCell ⟨g, 7, none⟩ (.int .u8 q.a7)).setCell ⟨g, 8, none⟩ (.int .i64 q.n)
theorem put9_blk {w : World} {g : Nat} {t : TypeId} {p : Pt} (h : Blk w g t (encP p)) (q : Pt) : Blk (put9 w g q) g t (encP q) := ((((((((h.set 0 _).set 1 _).set 2 _).set 3 _).set 4 _).set 5 _).set 6 _).set 7 _).set 8 _
theorem put9_below {w : World} {g B : Nat} (hB : B ≤ g) (q : Pt) : Below B w (put9 w g q) := (((((((((Below.refl B w).setCell hB _).setCell hB _).setCell hB _).setCell hB _).setCell hB _).setCell hB _).setCell hB _).setCell hB _).setCell hB _
theorem portsAt_owns {w : World} {base : Nat} {v : Value} {ps : List Pt} (h : w.ownsRow base 29 9 v ps.length (ps.flatMap encP)) : PortsAt w v ps := by
  rcases h.2 with ⟨rfl, h0⟩ | ⟨g, cap, cur, rfl, hbg, hgb, hr1, hr2, hr3, hr4⟩
  · exact .inl ⟨List.length_eq_zero_iff.1 h0, rfl⟩
  · exact portsAt_of (Array.getElem?_eq_some_iff.1 hgb).1 (holdsK_of hgb hr3 hr1 hr4)

def candX (win now : Int) (x : En × Nat) : Bool := decide (x.1.t0 ≤ now - win)
theorem cand_map (win now : Int) (l : List (En × Nat)) : (l.filter (candX win now)).map (·.1) = (l.map (·.1)).filter fun e => decide (e.t0 ≤ now - win) := by
  rw [List.filter_map]; rfl
theorem take_filter {α : Type} [Inhabited α] (p : α → Bool) (l : List α) (k : Nat) (hk : k < l.length) : (l.take (k + 1)).filter p = if p l[k]! = true then (l.take k).filter p ++ [l[k]!] else (l.take k).filter p := by
  rw [List.take_add_one, List.getElem?_eq_getElem hk, Option.toList_some, List.filter_append]
  rw [getElem!_pos l k hk]
  cases h : p l[k] <;> simp [h]

set_option maxRecDepth 100000 in
set_option maxHeartbeats 4000000 in
theorem over_t {base : Nat} {w : World} {T : Nat} {own : List Int} {win : Int} {mb : Nat} {l : List (En × Nat)} (h : TabAt base w T own win mb l) (hne : l ≠ []) (now : Int) (hn0 : 0 ≤ now) (hn1 : now ≤ 4611686018427387904) :
    Calls Try.prog 23 #[.pointer (some ⟨T, 0, none⟩), .int .i64 now] w fun r w' =>
      ((over win now (l.map (·.1)) = none ∧ r = .returned (.tuple #[.agg (encP ⟨0, 0, 0, 0, 0, 0, 0, 0, 0⟩).toArray, .bool false])) ∨ ∃ x ∈ l, over win now (l.map (·.1)) = some x.1 ∧ r = .returned (.tuple #[.agg (encP (keyX x)).toArray, .bool true])) ∧ Below w.heap.size w w' := by
  obtain ⟨V, hV⟩ : ∃ V, V = (w.alloc (.cells #[.pointer (some ⟨T, 0, none⟩)] 32)).alloc (.cells (encP ⟨0, 0, 0, 0, 0, 0, 0, 0, 0⟩).toArray 29) := ⟨_, rfl⟩
  have hBV : Below w.heap.size w V := by rw [hV]; exact ((Below.refl _ w).alloc (Nat.le_refl _) _).alloc (by simp) _
  have hTV := h.below hBV (Nat.le_refl _)
  have hS := senders_t T mb (l.map fun x => (keyX x, x.2)) (by have := h.few; simp; omega) V hTV.cmap hTV.map
  rw [show (l.map fun x => (keyX x, x.2)).map (·.1) = l.map keyX by simp] at hS
  have cb : V.cell? ⟨w.heap.size, 0, none⟩ = some (.pointer (some ⟨T, 0, none⟩)) := by rw [hV]; go_simp
  have hZ : Blk V (w.heap.size + 1) 29 (encP ⟨0, 0, 0, 0, 0, 0, 0, 0, 0⟩) := by
    rw [hV]
    have := Blk.new (w.alloc (.cells #[.pointer (some ⟨T, 0, none⟩)] 32)) 29 (encP ⟨0, 0, 0, 0, 0, 0, 0, 0, 0⟩)
    rwa [World.size_alloc] at this
  have hsV : V.heap.size = w.heap.size + 2 := by rw [hV]; simp
  have hasc := h.asc
  have HV := Lib.hid (And.intro hV (And.intro hBV (And.intro hTV (And.intro hZ (And.intro hsV hasc)))))
  have HS := Lib.hid hS
  clear h hV hBV hTV hZ hsV hasc hS
  go_enter Try.func23, Try.ntmps23
  go_wp2_with fail
  rw [← HV.out.1]
  refine HS.out.mono ?_
  rintro e W ⟨v, ps, rfl, hperm, hascp, hports, hBW⟩
  obtain rfl : ps = l.map keyX := asc_unique hascp HV.out.2.2.2.2.2 hperm
  obtain ⟨g, cap, rfl, hg, hcells⟩ := portBlk hports (by simpa using hne)
  rw [List.length_map] at hcells ⊢
  obtain ⟨n, hn⟩ : ∃ n, n = l.length := ⟨_, rfl⟩
  have hn5 : n ≤ 5 := by have := HV.out.2.2.1.few; omega
  rw [← hn] at hcells ⊢
  have HTW : Hid (TabAt base W T own win mb l) := HV.out.2.2.1.below hBW (Nat.le_refl _)
  have HcW : Hid (W.cell? ⟨w.heap.size, 0, none⟩ = some (.pointer (some ⟨T, 0, none⟩))) := (hBW.cell (p := ⟨w.heap.size, 0, none⟩) (by have := HV.out.2.2.2.2.1; show w.heap.size < _; omega)).trans cb
  have HZW : Hid (Blk W (w.heap.size + 1) 29 (encP ⟨0, 0, 0, 0, 0, 0, 0, 0, 0⟩)) := HV.out.2.2.2.1.below hBW (by have := HV.out.2.2.2.2.1; omega)
  have HBW : Hid (Below w.heap.size w W) := HV.out.2.1.trans (hBW.mono (by have := HV.out.2.2.2.2.1; omega))
  have HsW : Hid (w.heap.size + 2 ≤ W.heap.size) := by have := hBW.size; have := HV.out.2.2.2.2.1; exact (by omega : w.heap.size + 2 ≤ W.heap.size)
  have HC := Lib.hid (And.intro hcells hn)
  have hlw := HTW.out.win_
  clear hperm hascp hports hBW hcells hn HV HS cb
  obtain ⟨i0, hi, hz0, hz1, hz2⟩ := info_parts infoPort
  go_wp2_with fail
  go_loopw [6, 12] (fun v6 i wr => ∃ k : Nat, k ≤ n ∧ i = .int .i64 k ∧ Hid (Below W.heap.size W wr ∧ wr.ownsRow W.heap.size 29 9 v6 (((l.take k).filter (candX win now)).map keyX).length ((((l.take k).filter (candX win now)).map keyX).flatMap encP))) (fun v6 i _ => n - (intOf i).toNat)
  case atStart => exact ⟨0, by omega, rfl, Below.refl _ _, rfl, .inl ⟨rfl, rfl⟩⟩
  case round =>
    obtain ⟨k, hk, rfl, HR⟩ := hrel
    by_cases hlt : k < n
    · obtain ⟨x, hx⟩ : ∃ x, x = l[k]! := ⟨_, rfl⟩
      have hk' : k < l.length := by have := HC.out.2; omega
      have hxm : x ∈ l := by rw [hx, getElem!_pos l k hk']; exact List.getElem_mem _
      have hX : wr.rangeAt g (k * 9) (encP (keyX x)) := by
        have h1 := HC.out.1 k hlt
        rw [show (l.map keyX)[k]! = keyX x by rw [hx]; simp [hk']] at h1
        exact fun j v hv => (HR.out.1.cell (p := ⟨g, k * 9 + j, none⟩) hg).trans (h1 j v hv)
      obtain ⟨a0, a1, a2, a3, a4, a5, a6, a7, a8⟩ := nineAt hX
      obtain ⟨U, hU⟩ : ∃ U, U = wr.alloc (.cells (encP (keyX x)).toArray 29) := ⟨_, rfl⟩
      have hWU : Below W.heap.size W U := by rw [hU]; exact HR.out.1.alloc HR.out.1.size _
      have hTU := HTW.out.below hWU (Nat.le_refl _)
      have hbx : U.heap[wr.heap.size]? = some (.cells (encP (keyX x)).toArray 29 (0, 0)) := by rw [hU]; exact World.alloc_heap_new wr _
      have hrow : U.ownsRow W.heap.size 29 9 u6 (((l.take k).filter (candX win now)).map keyX).length ((((l.take k).filter (candX win now)).map keyX).flatMap encP) := by rw [hU]; exact HR.out.2.alloc _
      have HU := Lib.hid (And.intro hU (And.intro hWU (And.intro hTU (And.intro hbx (And.intro hrow (And.intro hxm hx))))))
      clear hU hWU hTU hbx hrow hxm hx hX
      have z2 : decide ((k : Int) < n) = true := decide_eq_true (by omega)
      have k0 : (0 : Int) ≤ (k : Int) := by omega
      have k1 : (k : Int) < n := by omega
      go_wp2_with fail
      rw [← HU.out.1]
      clear a0 a1 a2 a3 a4 a5 a6 a7 a8
      obtain ⟨x0, x1, x2, x3, x4, x5, x6, x7, x8⟩ := nine_cells HU.out.2.2.2.1
      have c8 := HU.out.2.2.1.cwin
      have c9 := HU.out.2.2.1.cmap
      have cb : U.cell? ⟨w.heap.size, 0, none⟩ = some (.pointer (some ⟨T, 0, none⟩)) := (HU.out.2.1.cell (p := ⟨w.heap.size, 0, none⟩) (by show w.heap.size < _; have := HsW.out; omega)).trans HcW.out
      have look : ∀ q, (Instr.lookup 61 (.map (some mb)) (.agg (encP (keyX x)).toArray) false).run Try.prog (U.drewN q) = .ok (.pointer (some ⟨x.2, 0, none⟩)) (U.drewN q) := fun q => (HU.out.2.2.1.drewN q).look1 HU.out.2.2.2.2.2.1
      have HEX := Lib.hid (HU.out.2.2.1.ents x HU.out.2.2.2.2.2.1)
      have wr1 : IntKind.i64.wrap (now - win) = now - win := wrap_in (by omega) (by omega)
      have HK := Lib.hid (take_filter (candX win now) l k (by have := HC.out.2; omega))
      rw [show l[k]! = x from HU.out.2.2.2.2.2.2.symm] at HK
      by_cases hold : x.1.t0 ≤ now - win
      · have z3 : decide (x.1.t0 ≤ now - win) = true := decide_eq_true hold
        rw [show candX win now x = true from z3] at HK
        have HO := Lib.hid hold
        clear hold
        go_quiet ((go_at_call 21; exact quiet_left (last_t _ x.2 x.1 HEX.out)))
        obtain ⟨U2, hU2⟩ : ∃ U2, U2 = U.drewN nq := ⟨_, rfl⟩
        have hr2 : U2.ownsRow W.heap.size 29 9 u6 (((l.take k).filter (candX win now)).map keyX).length ((((l.take k).filter (candX win now)).map keyX).flatMap encP) := by rw [hU2]; exact HU.out.2.2.2.2.1
        have hb2 : Below W.heap.size W U2 := by rw [hU2]; exact below_drewN HU.out.2.1 nq
        have hs2 : W.heap.size ≤ U2.heap.size := hb2.size
        obtain ⟨x0, x1, x2, x3, x4, x5, x6, x7, x8⟩ : Nine U2 wr.heap.size (keyX x) := by rw [hU2]; exact nine_cells HU.out.2.2.2.1
        rw [← hU2]
        clear hU2 look cb c8 c9
        have hlen : (((l.take k).filter (candX win now)).map keyX).length ≤ 5 := by
          rw [List.length_map]
          have h1 := List.length_filter_le (candX win now) (l.take k)
          rw [List.length_take] at h1
          omega
        go_wp2_with (at_builtin; refine wpList_append_own _ rfl _ _ 72 rfl W.heap.size 29 i0 _ 9 16 Try.underlying72 hi hz0 hz1 hz2 rfl (by decide) _ _ _ rfl (hr2.alloc _) ⟨U2.heap.size, 0, none⟩ 1 1 (encP (keyX x)) rfl rfl (cells_new _ _ _) (encP_one _) (by unfold maxLen; omega) (by omega) (by simp; omega) ?_; intro v' w3 hown' hg3 hnil3; go_frame)
        go_roundw
        case rel =>
          refine ⟨k + 1, by omega, by go_num, ?_, ?_⟩
          · have hg3' : (U2.alloc (.cells (encP (keyX x)).toArray 29)).grownBy w3 u6.ownBlock := hg3
            refine (hb2.alloc hs2 _).grown hg3' (by simp; omega) (fun j ej => ?_)
            rcases hr2.2 with ⟨e1, _⟩ | ⟨g', cap', cur', e1, hb', _, _⟩
            · rw [e1] at ej; simp [Value.ownBlock] at ej
            · rw [e1] at ej
              obtain rfl : g' = j := by simpa [Value.ownBlock] using ej
              exact hb'
          · rw [HK.out]; simpa using hown'
        case measure => simp [intOf]; omega
      · have z3 : decide (x.1.t0 ≤ now - win) = false := decide_eq_false hold
        rw [show candX win now x = false from z3] at HK
        have HO := Lib.hid hold
        clear hold
        go_quiet ((go_at_call 21; exact quiet_left (last_t _ x.2 x.1 HEX.out)))
        go_wp2_with fail
        go_roundw
        case rel => exact ⟨k + 1, by omega, by go_num, below_drewN HU.out.2.1 nq, by have HK2 := HK.out; simp only [Bool.false_eq_true, if_false] at HK2; rw [HK2]; exact HU.out.2.2.2.2.1⟩
        case measure => simp [intOf]; omega
    · obtain rfl : k = n := by omega
      have HE : Hid (wr.ownsRow W.heap.size 29 9 u6 ((l.filter (candX win now)).map keyX).length (((l.filter (candX win now)).map keyX).flatMap encP)) := by
        have := HR.out.2
        rw [List.take_of_length_le (by have := HC.out.2; omega)] at this
        exact this
      have HB2 := Lib.hid HR.out.1
      have HM := Lib.hid (cand_map win now l)
      have hsub : ∀ x ∈ l.filter (candX win now), x ∈ l := fun x hx => (List.mem_filter.1 hx).1
      have hfew : (l.filter (candX win now)).length ≤ 5 := Nat.le_trans (List.length_filter_le _ _) (by have := HC.out.2; omega)
      clear HR
      generalize l.filter (candX win now) = es at HE HM hsub hfew
      have z2 : decide ((k : Int) < k) = false := decide_eq_false (by omega)
      obtain ⟨q, cap', e6⟩ : ∃ q c, u6 = .slice q es.length c := by
        rcases HE.out.2 with ⟨e1, h0⟩ | ⟨g', cap', cur', e1, _⟩
        · rw [List.length_map] at h0
          exact ⟨none, 0, by rw [e1, h0]⟩
        · rw [List.length_map] at e1
          exact ⟨_, _, e1⟩
      subst e6
      have HZ : Hid (Blk wr (w.heap.size + 1) 29 (encP ⟨0, 0, 0, 0, 0, 0, 0, 0, 0⟩)) := HZW.out.below HB2.out (by have := HsW.out; omega)
      have HBw : Hid (Below w.heap.size w wr) := HBW.out.trans (HB2.out.mono (by have := HsW.out; omega))
      cases es with
      | nil =>
        obtain ⟨b0, b1, b2, b3, b4, b5, b6, b7, b8⟩ := nineR HZ.out.all
        have f := fun i => HZ.out.frozen i
        have z4 : decide ((([] : List (En × Nat)).length : Int) = 0) = true := by simp
        go_wp2_with fail
        have hbk := put9_blk HZ.out ⟨0, 0, 0, 0, 0, 0, 0, 0, 0⟩
        have hbe := HBw.out.trans (put9_below (w := wr) (g := w.heap.size + 1) (B := w.heap.size) (by omega) ⟨0, 0, 0, 0, 0, 0, 0, 0, 0⟩)
        refine bodyPost_ret (results_cell2 rfl _ (put9 wr (w.heap.size + 1) ⟨0, 0, 0, 0, 0, 0, 0, 0, 0⟩) (w.heap.size + 1) 29 _ _ rfl hbk Try.underlying29 rfl (by kernel_rfl)) rfl ?_
        refine ⟨.inl ⟨?_, rfl⟩, hbe⟩
        unfold over
        rw [← HM.out]; rfl
      | cons c rest =>
        have hP := portsAt_owns HE.out
        have hMin := minFunc_t (HTW.out.below HB2.out (Nat.le_refl _)) w.heap.size ((HB2.out.cell (p := ⟨w.heap.size, 0, none⟩) (by show w.heap.size < _; have := HsW.out; omega)).trans HcW.out) c rest hsub hfew _ hP
        have HMin := Lib.hid hMin
        have hcm : c ∈ l ∧ bestX c rest ∈ l := ⟨hsub c (by simp), hsub _ (bestX_mem c rest)⟩
        have HCM := Lib.hid hcm
        clear hP hMin hcm hsub
        have z4 : decide (((rest.length : Int) + 1) = 0) = false := decide_eq_false (by omega)
        go_wp2_with fail
        refine HMin.out.mono ?_
        rintro e W8 ⟨rfl, hB8⟩
        have HZ8 : Hid (Blk W8 (w.heap.size + 1) 29 (encP ⟨0, 0, 0, 0, 0, 0, 0, 0, 0⟩)) := HZ.out.below hB8 HZ.out.lt
        have HB8 : Hid (Below w.heap.size w W8) := HBw.out.trans (hB8.mono HBw.out.size)
        obtain ⟨b0, b1, b2, b3, b4, b5, b6, b7, b8⟩ := nineR HZ8.out.all
        have f := fun i => HZ8.out.frozen i
        clear hB8
        go_wp2_with fail
        have hbk := put9_blk HZ8.out (keyX (bestX c rest))
        have hbe := HB8.out.trans (put9_below (w := W8) (g := w.heap.size + 1) (B := w.heap.size) (by omega) (keyX (bestX c rest)))
        refine bodyPost_ret (results_cell2 rfl _ (put9 W8 (w.heap.size + 1) (keyX (bestX c rest))) (w.heap.size + 1) 29 _ _ rfl hbk Try.underlying29 rfl (by kernel_rfl)) rfl ?_
        refine ⟨.inr ⟨bestX c rest, HCM.out.2, ?_, rfl⟩, hbe⟩
        unfold over
        rw [← HM.out, List.map_cons, bestX_fst]
end Go.Proofs.Ytmjmoihggojpiaa
