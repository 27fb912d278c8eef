/- ForeignBounds: the plain law, and the walk. -/
import Derived.Test.YtmjmoihggojpiaaForEnds
set_option linter.unusedSimpArgs false
set_option linter.unusedVariables false
namespace Go.Proofs.Ytmjmoihggojpiaa
open Go Go.Maps Go.RowKit Go.Shelf Go.Sort Go.Lib

/-- Whoever is there may be. -/
def Good (own : List Int) (L : List En) : Prop := ∀ e ∈ L, e.s.sender.clock ≠ own ∧ 0 ≤ e.s.steps ∧ e.s.steps < 255 ∧ e.s.sender.ok
theorem hear_good {own : List Int} {win : Int} {L : List En} (h : Good own L) (s : St) (hs : s.sender.ok) (now : Int) : Good own (hear own win L s now).1 := by
  unfold hear
  split
  · exact h
  · rename_i hb
    have hg : s.sender.clock ≠ own ∧ 0 ≤ s.steps ∧ s.steps < 255 ∧ s.sender.ok := by
      simp only [bad, decide_eq_true_eq, not_or] at hb
      exact ⟨hb.2.2.1, by omega, by omega, hs⟩
    split
    · split
      · exact h
      · intro e he
        obtain ⟨y, hy, rfl⟩ := List.mem_map.1 he
        unfold upd
        split
        · exact hg
        · exact h y hy
    · split
      · split
        · exact h
        · intro e he
          rcases mem_ins.1 he with rfl | he
          · exact hg
          · exact h e (List.mem_filter.1 he).1
      · intro e he
        rcases mem_ins.1 he with rfl | he
        · exact hg
        · exact h e he
theorem does_good {own : List Int} {win : Int} {L : List En} (h : Good own L) (o : Op8) (ho : o.s.sender.ok) : Good own (doesL own win L o).1 := by
  unfold doesL
  split
  · exact hear_good h o.s ho o.now
  · split
    · exact fun e he => h e (List.mem_filter.1 he).1
    · split
      · intro e he; cases he
      · exact h
theorem qual_good {own : List Int} {win now : Int} {L : List En} (h : Good own L) : ∀ s ∈ qual win now L, s.sender.clock ≠ own ∧ 0 ≤ s.steps ∧ s.steps < 255 ∧ s.sender.ok := fun s hs => by
  obtain ⟨e, he, rfl⟩ := List.mem_map.1 hs
  exact h e (List.mem_filter.1 he).1
theorem TabL.few {base : Nat} {X : List Nat} {w : World} {T : Nat} {own : List Int} {win : Int} {L : List En} (h : TabL base X w T own win L) : L.length ≤ 5 := by
  obtain ⟨mb, l, hT, rfl, _⟩ := h
  rw [List.length_map]; exact hT.few
theorem boxed_set {wr Z : World} {s : St} (hZ : (wr.alloc (.cells (encS zeroS).toArray 31)).setCells wr.heap.size 0 (encS s).toArray.toList = Z) : Blk Z wr.heap.size 31 (encS s) ∧ Below wr.heap.size wr Z := by
  subst hZ
  constructor
  · have h1 := Blk.sets (w := wr) (encS s) 0 (Blk.new wr 31 (encS zeroS))
    have e1 := putL_all (encS s) (encS zeroS) [] [] rfl
    rw [show putL (encS zeroS) 0 (encS s) = encS s by simpa using e1] at h1
    exact h1
  · exact ((But.refl [wr.heap.size] wr).alloc _).setCells wr.heap.size (by simp) _ 0 |>.below (Nat.le_refl _) (by simp)
theorem there_set (wr : World) : (wr.alloc (.cells (encS zeroS).toArray 31)).there wr.heap.size 0 32 := (Blk.new wr 31 (encS zeroS)).there 0 32 (by rw [encS_len]; omega)

set_option maxRecDepth 100000 in
set_option maxHeartbeats 8000000 in
theorem bounds_t (own : List Int) (hl : own.length = 8) (hby : ∀ x ∈ own, 0 ≤ x ∧ x < 256) (every : Int) (os : List Op8) (hok : ∀ o ∈ os, o.ok) (w : World) (v : Value) (hv : OpsAt w v os) :
    Calls Try.prog 5 #[.agg (encC own ++ [Value.int .i64 every]).toArray, v] w fun r w' => r = .returned (.bool true) ∧ Below w.heap.size w w' := by
  obtain ⟨q, cap, rfl, hcells⟩ := hv
  have hl' := hl
  obtain ⟨o0, o1, o2, o3, o4, o5, o6, o7, rfl⟩ := len8 hl
  obtain ⟨V, hV⟩ : ∃ V, V = w.alloc (.cells (encC [o0, o1, o2, o3, o4, o5, o6, o7] ++ [Value.int .i64 every]).toArray 25) := ⟨_, rfl⟩
  have HB : Hid (Below w.heap.size w V) := by rw [hV]; exact (Below.refl _ w).alloc (Nat.le_refl _) _
  have HX : Hid (Blk V w.heap.size 25 (encC [o0, o1, o2, o3, o4, o5, o6, o7] ++ [Value.int .i64 every])) := by rw [hV]; exact Blk.new w _ _
  have H := Lib.hid (And.intro hby (And.intro hok hcells))
  have HA := Lib.hid alive_t
  obtain ⟨n, hn⟩ : ∃ n, n = os.length := ⟨_, rfl⟩
  have HN := Lib.hid hn
  rw [← hn]
  clear hby hok hcells hn
  simp only [encC, List.map_cons, List.map_nil, List.cons_append, List.nil_append] at hV ⊢
  have HV := Lib.hid hV
  clear hV
  by_cases hbad : every < 1 ∨ 1099511627776 < every
  · have hNew := new_bad [o0, o1, o2, o3, o4, o5, o6, o7] rfl every hbad V
    have HNew := Lib.hid hNew
    rw [HV.out] at HNew
    clear hNew hbad
    go_enter Try.func5, Try.ntmps5
    go_wp2_with fail
    refine HNew.out.mono ?_
    rintro e W ⟨rfl, hB1⟩
    have HB1 := Lib.hid hB1
    rw [← HV.out] at HB1
    clear hB1
    go_wp2_with fail
    refine (HA.out W).mono ?_
    rintro e W2 ⟨rfl, hB2⟩
    go_wp2_with fail
    go_ret
    exact ⟨rfl, (HB.out.trans (HB1.out.mono HB.out.size)).trans (hB2.mono (Nat.le_trans HB.out.size HB1.out.size))⟩
  · have hNew := new_t [o0, o1, o2, o3, o4, o5, o6, o7] rfl H.out.1 every (by omega) (by omega) V
    have hev : 1 ≤ every ∧ every ≤ 1099511627776 := by omega
    have HNew := Lib.hid hNew
    rw [HV.out] at HNew
    clear hNew hbad
    go_enter Try.func5, Try.ntmps5
    go_wp2_with fail
    refine HNew.out.mono ?_
    rintro e W ⟨T, mb, rfl, hT, hB1⟩
    have hTP : ∀ v : World, (binOp .eql 32 (.pointer (some ⟨T, 0, none⟩)) (.pointer none)).run Try.prog v = .ok (.bool false) v := fun v => run_eql_pointer_nil v 32 _ hptr
    have HT := Lib.hid (TabL.made hT)
    have HB1 := Lib.hid hB1
    rw [← HV.out] at HT HB1
    clear hT hB1
    by_cases h400 : (400 : Int) < n
    · have z1 : decide ((400 : Int) < n) = true := decide_eq_true h400
      clear h400
      go_wp2_with fail
      refine (HA.out W).mono ?_
      rintro e W2 ⟨rfl, hB2⟩
      go_wp2_with fail
      go_ret
      exact ⟨rfl, (HB.out.trans (HB1.out.mono HB.out.size)).trans (hB2.mono (Nat.le_trans HB.out.size HB1.out.size))⟩
    · have z1 : decide ((400 : Int) < n) = false := decide_eq_false h400
      go_wp2_with fail
      have hn4 : n ≤ 400 := by omega
      have HVW : Hid (Below V.heap.size V W) := HB1.out
      have lVw : V.heap.size = w.heap.size + 1 := by rw [HV.out]; simp
      clear h400 HB1
      go_loopw [33] (fun i wr => ∃ k : Nat, k ≤ n ∧ i = .int .i64 k ∧ ∃ L, Hid (TabL V.heap.size [] wr T [o0, o1, o2, o3, o4, o5, o6, o7] (4 * every) L ∧ Below V.heap.size V wr ∧ Good [o0, o1, o2, o3, o4, o5, o6, o7] L)) (fun i _ => n - (intOf i).toNat)
      case atStart => exact ⟨0, by omega, rfl, [], HT.out, HVW.out, fun e he => by cases he⟩
      case round =>
        obtain ⟨k, hk, rfl, L, HI⟩ := hrel
        by_cases hkn : k < n
        · obtain ⟨o, ho⟩ : ∃ o, o = os[k]! := ⟨_, rfl⟩
          have hk' : k < os.length := by have := HN.out; omega
          obtain ⟨g, off, rfl, hg, hc⟩ := H.out.2.2 k hk'
          rw [← ho] at hc
          have hok : o.ok := H.out.2.1 o (by rw [ho, getElem!_pos os k hk']; exact List.getElem_mem _)
          have HRg : Hid (wr.rangeAt g (off + k * 34) (encO o)) := fun j v hj => ((HB.out.trans (HI.out.2.1.mono HB.out.size)).cell (p := ⟨g, off + k * 34 + j, none⟩) hg).trans (hc j v hj)
          have HOK := Lib.hid hok
          clear hc ho hok
          have z2 : decide ((k : Int) < n) = true := decide_eq_true (by omega)
          have k0 : (0 : Int) ≤ (k : Int) := by omega
          have k1 : (k : Int) < n := by omega
          go_wp2_with (first
            | ((with_reducible refine wpList_load_mid ?_ 45 (.tmp 35) ?_ g (off + k * 34) ?_ (encO o) _ HRg.out Try.underlying45 ?_ ?_ ?_); rfl; rfl; rfl; rfl; kernel_rfl)
            | ((with_reducible refine wpList_load_mid ?_ 45 (.tmp 8) ?_ wr.heap.size 0 ?_ (encO o) _ HZ.out.1.all Try.underlying45 ?_ ?_ ?_); rfl; rfl; rfl; rfl; kernel_rfl)
            | ((with_reducible refine wpList_store_mid ?_ 45 (.tmp 8) (.tmp 36) ?_ wr.heap.size 0 (encO o).toArray ?_ ?_ ?_ ?_ (all_oneCell_toArray (encO_one o)) ?_); rfl; rfl; rfl; rfl; exact there_op wr; kernel_rfl; (generalize hZ : World.setCells _ _ _ _ = Z); (have HZ := Lib.hid (boxed_op hZ)); clear hZ; (have cz : Z.cell? ⟨wr.heap.size, 1, none⟩ = some (.int .i64 o.now) := (HZ.out.1.cell 1).trans rfl); go_frame))
          have hs := HZ.out.1.lt
          have hTZ := HI.out.1.add HZ.out.2 hs
          refine (does_l hTZ o HOK.out.1).mono ?_
          rintro e W3 ⟨rfl, hT3, hK3⟩
          have HBX : Hid (Blk W3 wr.heap.size 45 (encO o)) := hK3.blk HZ.out.1 (by simp)
          have c3 : W3.cell? ⟨wr.heap.size, 1, none⟩ = some (.int .i64 o.now) := (HBX.out.cell 1).trans rfl
          generalize hL' : (doesL [o0, o1, o2, o3, o4, o5, o6, o7] (4 * every) L o).1 = L' at hT3
          have H3 : Hid (TabL V.heap.size [] W3 T [o0, o1, o2, o3, o4, o5, o6, o7] (4 * every) L' ∧ Below V.heap.size V W3 ∧ Good [o0, o1, o2, o3, o4, o5, o6, o7] L') :=
            ⟨hT3.less (by simp), (HI.out.2.1.trans (HZ.out.2.mono HI.out.2.1.size)).trans hK3.below, by rw [← hL']; exact does_good HI.out.2.2 o HOK.out.1⟩
          have hfew := hT3.few
          clear hs hTZ hT3 hK3 cz hL'
          have z5 : decide ((5 : Int) < L'.length) = false := decide_eq_false (by omega)
          have z6 : decide ((L'.length : Int) ≤ 5) = true := decide_eq_true (by omega)
          go_wp2_with (go_at_call 13; refine (len_l H3.out.1).mono ?_; rintro e W4 ⟨rfl, rfl⟩)
          refine (far_t o.now _).mono ?_
          rintro e W5 ⟨rfl, rfl⟩
          by_cases hfar : o.now < -4611686018427387904 ∨ 4611686018427387904 < o.now
          · rw [decide_eq_true hfar]
            clear hfar
            go_wp2_with (first
              | (go_at_call 13; refine (len_l H3.out.1).mono ?_; rintro e W4 ⟨rfl, rfl⟩)
              | (go_at_call 10; refine (HA.out _).mono ?_; rintro e W6 ⟨rfl, hB6⟩))
            go_ret
            have hb1 := HB.out.trans (H3.out.2.1.mono HB.out.size)
            exact ⟨rfl, hb1.trans (hB6.mono hb1.size)⟩
          · rw [decide_eq_false hfar]
            have hnow : -4611686018427387904 ≤ o.now ∧ o.now ≤ 4611686018427387904 := by omega
            clear hfar
            go_wp2_with fail
            refine (qual_l H3.out.1 o.now (by omega) (by omega)).mono ?_
            rintro e W6 ⟨v, rfl, hS, hT6, hK6, hB6⟩
            have HG := Lib.hid (qual_good (win := 4 * every) (now := o.now) H3.out.2.2)
            obtain ⟨q6, c6, rfl, hc6⟩ := hS
            have H6 : Hid (TabL V.heap.size [] W6 T [o0, o1, o2, o3, o4, o5, o6, o7] (4 * every) L' ∧ Below V.heap.size V W6) := ⟨hT6, H3.out.2.1.trans hK6.below⟩
            have HC6 := Lib.hid hc6
            obtain ⟨nq, hnq⟩ : ∃ nq, nq = (qual (4 * every) o.now L').length := ⟨_, rfl⟩
            have hnq5 : nq ≤ 5 := by
              rw [hnq]; unfold qual; rw [List.length_map]
              exact Nat.le_trans (List.length_filter_le _ _) hfew
            have HNQ := Lib.hid hnq
            rw [← hnq]
            clear hc6 hT6 hK6 hB6 hnq
            go_wp2_with fail
            go_loopw [59] (fun i wr2 => ∃ jj : Nat, jj ≤ nq ∧ i = .int .i64 jj ∧ Hid (Below W6.heap.size W6 wr2)) (fun i _ => nq - (intOf i).toNat)
            case atStart => exact ⟨0, by omega, rfl, Below.refl _ _⟩
            case round =>
              obtain ⟨jj, hj, rfl, HJ⟩ := hrel
              by_cases hjl : jj < nq
              · obtain ⟨s, hs⟩ : ∃ s, s = (qual (4 * every) o.now L')[jj]! := ⟨_, rfl⟩
                have hj' : jj < (qual (4 * every) o.now L').length := by have := HNQ.out; omega
                obtain ⟨g2, rfl, hg2, hc2⟩ := HC6.out jj hj'
                rw [← hs] at hc2
                have hgs := HG.out s (by rw [hs, getElem!_pos _ jj hj']; exact List.getElem_mem _)
                have HRs : Hid (wr.rangeAt g2 (jj * 32) (encS s)) := fun j v hv => (HJ.out.cell (p := ⟨g2, jj * 32 + j, none⟩) hg2).trans (hc2 j v hv)
                have HBv : Hid (Below V.heap.size V wr) := H6.out.2.trans (HJ.out.mono H6.out.2.size)
                have hby := H.out.1
                have heq : ∀ v : World, (binOp .eql 23 (.agg #[.int .u8 s.sender.a0, .int .u8 s.sender.a1, .int .u8 s.sender.a2, .int .u8 s.sender.a3, .int .u8 s.sender.a4, .int .u8 s.sender.a5, .int .u8 s.sender.a6, .int .u8 s.sender.a7]) (.agg #[.int .u8 o0, .int .u8 o1, .int .u8 o2, .int .u8 o3, .int .u8 o4, .int .u8 o5, .int .u8 o6, .int .u8 o7])).run Try.prog v = .ok (.bool false) v := fun v => by
                  have := (eql_clock s.sender ⟨o0, o1, o2, o3, o4, o5, o6, o7, 0⟩ hgs.2.2.2.1 hby v).1
                  have h2 : decide (s.sender.clock = (⟨o0, o1, o2, o3, o4, o5, o6, o7, 0⟩ : Pt).clock) = false := decide_eq_false hgs.1
                  rw [h2] at this
                  exact this
                have z7 : decide (s.steps < 0) = false := decide_eq_false (by omega)
                have z8 : decide ((255 : Int) ≤ s.steps) = false := decide_eq_false (by omega)
                have j0 : (0 : Int) ≤ (jj : Int) := by omega
                have j1 : (jj : Int) < nq := by omega
                have hjn : jj + 1 ≤ nq := by omega
                clear hs hc2 hgs hby
                go_wp2_with (first
                  | ((with_reducible refine wpList_load_mid ?_ 31 (.tmp 61) ?_ g2 (jj * 32) ?_ (encS s) _ HRs.out Try.underlying31 ?_ ?_ ?_); rfl; rfl; rfl; rfl; kernel_rfl)
                  | ((with_reducible refine wpList_store_mid ?_ 31 (.tmp 10) (.tmp 62) ?_ wr.heap.size 0 (encS s).toArray ?_ ?_ ?_ ?_ (all_oneCell_toArray (encS_one s)) ?_); rfl; rfl; rfl; rfl; exact there_set wr; kernel_rfl; (generalize hZ2 : World.setCells _ _ _ _ = Z2); (have HZ2 := Lib.hid (boxed_set hZ2)); clear hZ2;
                     (obtain ⟨y0, y1, y2, y3, y4, y5, y6, y7, y8⟩ := nineAt (HZ2.out.1.range 14 (encP s.sender) (encS_sender s))); simp only [Nat.reduceAdd] at y1 y2 y3 y4 y5 y6 y7 y8;
                     (have ys : Z2.cell? ⟨wr.heap.size, 13, none⟩ = some (.int .i64 s.steps) := (HZ2.out.1.cell 13).trans (encS_steps s));
                     (have HSeat : Hid (Z2.rangeAt w.heap.size 0 (encC [o0, o1, o2, o3, o4, o5, o6, o7])) := fun j v hv => ((HBv.out.trans (HZ2.out.2.mono HBv.out.size)).cell (p := ⟨w.heap.size, 0 + j, none⟩) (by show w.heap.size < _; omega)).trans ((HX.out.cell (0 + j)).trans (by have hj2 : j < (encC [o0, o1, o2, o3, o4, o5, o6, o7]).length := (List.getElem?_eq_some_iff.1 hv).1; rw [Nat.zero_add, List.getElem?_append_left hj2]; exact hv)));
                     (obtain ⟨u0, u1, u2, u3, u4', u5, u6, u7⟩ := eight_of HSeat.out); simp only [Nat.reduceAdd] at u1 u2 u3 u4' u5 u6 u7; go_frame))
                go_roundw
                case rel => exact ⟨jj + 1, hjn, by go_num, HJ.out.trans (HZ2.out.2.mono HJ.out.size)⟩
                case measure => simp [intOf]; omega
              · obtain rfl : jj = nq := by omega
                have z9 : decide ((jj : Int) < jj) = false := decide_eq_false (by omega)
                go_wp2_with fail
                go_roundw
                case rel => exact ⟨k + 1, by omega, by go_num, L', H6.out.1.later HJ.out, H6.out.2.trans (HJ.out.mono H6.out.2.size), H3.out.2.2⟩
                case measure => simp [intOf]; omega
        · obtain rfl : k = n := by omega
          have z2 : decide ((k : Int) < k) = false := decide_eq_false (by omega)
          go_wp2_with fail
          refine (HA.out _).mono ?_
          rintro e W2 ⟨rfl, hB2⟩
          go_wp2_with fail
          go_ret
          have hb1 := HB.out.trans (HI.out.2.1.mono HB.out.size)
          exact ⟨rfl, hb1.trans (hB2.mono hb1.size)⟩
end Go.Proofs.Ytmjmoihggojpiaa
