/- ForeignEnds: the plain law, and the walk. -/
import Derived.Test.YtmjmoihggojpiaaForDoes
set_option linter.unusedSimpArgs false
set_option linter.unusedVariables false
namespace Go.Proofs.Ytmjmoihggojpiaa
open Go Go.Maps Go.RowKit Go.Shelf Go.Sort Go.Lib

def Upto (b : Int) (L : List En) : Prop := ∀ e ∈ L, e.t0 ≤ b
theorem Upto.mono {b c : Int} {L : List En} (h : Upto b L) (hbc : b ≤ c) : Upto c L := fun e he => by have := h e he; omega
theorem hear_upto {own : List Int} {win b : Int} {L : List En} (h : Upto b L) (s : St) (now : Int) : Upto (max b now) (hear own win L s now).1 := by
  have h1 := h.mono (Int.le_max_left b now)
  unfold hear
  split
  · exact h1
  · split
    · split
      · exact h1
      · intro e he
        obtain ⟨y, hy, rfl⟩ := List.mem_map.1 he
        unfold upd
        split
        · exact Int.le_max_right b now
        · exact h1 y hy
    · split
      · split
        · exact h1
        · intro e he
          rcases mem_ins.1 he with rfl | he
          · exact Int.le_max_right b now
          · exact h1 e (List.mem_filter.1 he).1
      · intro e he
        rcases mem_ins.1 he with rfl | he
        · exact Int.le_max_right b now
        · exact h1 e he
theorem does_upto {own : List Int} {win b : Int} {L : List En} (h : Upto b L) (o : Op8) : Upto (max b o.now) (doesL own win L o).1 := by
  have h1 := h.mono (Int.le_max_left b o.now)
  unfold doesL
  split
  · exact hear_upto h o.s o.now
  · split
    · exact fun e he => h1 e (List.mem_filter.1 he).1
    · split
      · intro e he; cases he
      · exact h1
theorem qual_ends {win b : Int} {L : List En} (h : Upto b L) : qual win (b + win) L = [] := by
  unfold qual
  rw [List.map_eq_nil_iff, List.filter_eq_nil_iff]
  intro e he hc
  have := h e he
  unfold often at hc
  rw [decide_eq_true_eq] at hc
  omega

/-- A script, in memory. -/
def OpsAt (w : World) (v : Value) (os : List Op8) : Prop := ∃ q cap, v = .slice q os.length cap ∧ ∀ i, i < os.length → ∃ g off, q = some ⟨g, off, none⟩ ∧ g < w.heap.size ∧ w.rangeAt g (off + i * 34) (encO os[i]!)
def Op8.ok (o : Op8) : Prop := o.s.sender.ok ∧ -9223372036854775808 ≤ o.now ∧ o.now ≤ 9223372036854775807
def zeroO : Op8 := ⟨0, 0, zeroS⟩
theorem encO_one (o : Op8) : ∀ v ∈ encO o, v.oneCell' = true := by simp [encO, encS, encP, Value.oneCell']
theorem boxed_op {wr Z : World} {o : Op8} (hZ : (wr.alloc (.cells (encO zeroO).toArray 45)).setCells wr.heap.size 0 (encO o).toArray.toList = Z) : Blk Z wr.heap.size 45 (encO o) ∧ Below wr.heap.size wr Z := by
  subst hZ
  constructor
  · have h1 := Blk.sets (w := wr) (encO o) 0 (Blk.new wr 45 (encO zeroO))
    have e1 := putL_all (encO o) (encO zeroO) [] [] rfl
    rw [show putL (encO zeroO) 0 (encO o) = encO o by simpa using e1] at h1
    exact h1
  · exact ((But.refl [wr.heap.size] wr).alloc _).setCells wr.heap.size (by simp) _ 0 |>.below (Nat.le_refl _) (by simp)
theorem there_op (wr : World) : (wr.alloc (.cells (encO zeroO).toArray 45)).there wr.heap.size 0 34 := (Blk.new wr 45 (encO zeroO)).there 0 34 (by rw [encO_len]; omega)

theorem TabL.add {base : Nat} {w w' : World} {T : Nat} {own : List Int} {win : Int} {L : List En} (h : TabL base [] w T own win L) (hb : Below w.heap.size w w') (hlt : w.heap.size < w'.heap.size) : TabL base [w.heap.size] w' T own win L := by
  obtain ⟨mb, l, hT, hl, hx, _⟩ := h
  refine ⟨mb, l, hT.below hb (Nat.le_refl _), hl, fun x hm hc => ?_, fun x hm => ?_⟩
  · simp only [List.mem_singleton] at hm
    subst hm
    have := hT.lt _ hc
    omega
  · simp only [List.mem_singleton] at hm
    subst hm
    exact hlt

set_option maxRecDepth 100000 in
set_option maxHeartbeats 8000000 in
theorem ends_t (own : List Int) (hl : own.length = 8) (hby : ∀ x ∈ own, 0 ≤ x ∧ x < 256) (every : Int) (os : List Op8) (hok : ∀ o ∈ os, o.ok) (w : World) (v : Value) (hv : OpsAt w v os) :
    Calls Try.prog 6 #[.agg (encC own ++ [Value.int .i64 every]).toArray, v] w fun r w' => r = .returned (.bool true) ∧ Below w.heap.size w w' := by
  obtain ⟨q, cap, rfl, hcells⟩ := hv
  have hl' := hl
  obtain ⟨o0, o1, o2, o3, o4, o5, o6, o7, rfl⟩ := len8 hl
  obtain ⟨V, hV⟩ : ∃ V, V = w.alloc (.cells (encC [o0, o1, o2, o3, o4, o5, o6, o7] ++ [Value.int .i64 every]).toArray 25) := ⟨_, rfl⟩
  have HB : Hid (Below w.heap.size w V) := by rw [hV]; exact (Below.refl _ w).alloc (Nat.le_refl _) _
  have HX : Hid (Blk V w.heap.size 25 (encC [o0, o1, o2, o3, o4, o5, o6, o7] ++ [Value.int .i64 every])) := by rw [hV]; exact Blk.new w _ _
  have H := Lib.hid (And.intro hby (And.intro hok hcells))
  have HA := Lib.hid alive_t
  obtain ⟨n, hn⟩ : ∃ n, n = os.length := ⟨_, rfl⟩
  have HN := Lib.hid hn
  rw [← hn]
  clear hby hok hcells hn
  simp only [encC, List.map_cons, List.map_nil, List.cons_append, List.nil_append] at hV ⊢
  have HV := Lib.hid hV
  clear hV
  by_cases hbad : every < 1 ∨ 1099511627776 < every
  · have hNew := new_bad [o0, o1, o2, o3, o4, o5, o6, o7] rfl every hbad V
    have HNew := Lib.hid hNew
    rw [HV.out] at HNew
    clear hNew hbad
    go_enter Try.func6, Try.ntmps6
    go_wp2_with fail
    refine HNew.out.mono ?_
    rintro e W ⟨rfl, hB1⟩
    have HB1 := Lib.hid hB1
    rw [← HV.out] at HB1
    clear hB1
    go_wp2_with fail
    refine (HA.out W).mono ?_
    rintro e W2 ⟨rfl, hB2⟩
    go_wp2_with fail
    go_ret
    exact ⟨rfl, (HB.out.trans (HB1.out.mono HB.out.size)).trans (hB2.mono (Nat.le_trans HB.out.size HB1.out.size))⟩
  · have hNew := new_t [o0, o1, o2, o3, o4, o5, o6, o7] rfl H.out.1 every (by omega) (by omega) V
    have hev : 1 ≤ every ∧ every ≤ 1099511627776 := by omega
    have HNew := Lib.hid hNew
    rw [HV.out] at HNew
    clear hNew hbad
    go_enter Try.func6, Try.ntmps6
    go_wp2_with fail
    refine HNew.out.mono ?_
    rintro e W ⟨T, mb, rfl, hT, hB1⟩
    have hTP : ∀ v : World, (binOp .eql 32 (.pointer (some ⟨T, 0, none⟩)) (.pointer none)).run Try.prog v = .ok (.bool false) v := fun v => run_eql_pointer_nil v 32 _ hptr
    have HT := Lib.hid (TabL.made hT)
    have HB1 := Lib.hid hB1
    rw [← HV.out] at HT HB1
    clear hT hB1
    by_cases h400 : (400 : Int) < n
    · have z1 : decide ((400 : Int) < n) = true := decide_eq_true h400
      clear h400
      go_wp2_with fail
      refine (HA.out W).mono ?_
      rintro e W2 ⟨rfl, hB2⟩
      go_wp2_with fail
      go_ret
      exact ⟨rfl, (HB.out.trans (HB1.out.mono HB.out.size)).trans (hB2.mono (Nat.le_trans HB.out.size HB1.out.size))⟩
    · have z1 : decide ((400 : Int) < n) = false := decide_eq_false h400
      go_wp2_with fail
      have hn4 : n ≤ 400 := by omega
      have HVW : Hid (Below V.heap.size V W) := HB1.out
      have lVw : V.heap.size = w.heap.size + 1 := by rw [HV.out]; simp
      clear h400 HB1
      go_loopw [7, 32] (fun last i wr => ∃ k : Nat, k ≤ n ∧ i = .int .i64 k ∧ ∃ lt : Int, last = .int .i64 lt ∧ (0 ≤ lt ∧ lt ≤ 1152921504606846976) ∧ ∃ L, Hid (TabL V.heap.size [] wr T [o0, o1, o2, o3, o4, o5, o6, o7] (4 * every) L ∧ Below V.heap.size V wr ∧ Upto lt L)) (fun _ i _ => n - (intOf i).toNat)
      case atStart => exact ⟨0, by omega, rfl, 0, rfl, ⟨by omega, by omega⟩, [], HT.out, HVW.out, fun e he => by cases he⟩
      case round =>
        obtain ⟨k, hk, rfl, lt, rfl, hlt0, L, HI⟩ := hrel
        by_cases hkn : k < n
        · obtain ⟨o, ho⟩ : ∃ o, o = os[k]! := ⟨_, rfl⟩
          have hk' : k < os.length := by have := HN.out; omega
          obtain ⟨g, off, rfl, hg, hc⟩ := H.out.2.2 k hk'
          rw [← ho] at hc
          have hok : o.ok := H.out.2.1 o (by rw [ho, getElem!_pos os k hk']; exact List.getElem_mem _)
          have HRg : Hid (wr.rangeAt g (off + k * 34) (encO o)) := fun j v hj => ((HB.out.trans (HI.out.2.1.mono HB.out.size)).cell (p := ⟨g, off + k * 34 + j, none⟩) hg).trans (hc j v hj)
          have HOK := Lib.hid hok
          clear hc ho hok
          have z2 : decide ((k : Int) < n) = true := decide_eq_true (by omega)
          have k0 : (0 : Int) ≤ (k : Int) := by omega
          have k1 : (k : Int) < n := by omega
          by_cases hbig : 1152921504606846976 < o.now
          · have z3 : decide (1152921504606846976 < o.now) = true := decide_eq_true hbig
            clear hbig
            go_wp2_with (first
              | ((with_reducible refine wpList_load_mid ?_ 45 (.tmp 34) ?_ g (off + k * 34) ?_ (encO o) _ HRg.out Try.underlying45 ?_ ?_ ?_); rfl; rfl; rfl; rfl; kernel_rfl)
              | ((with_reducible refine wpList_store_mid ?_ 45 (.tmp 9) (.tmp 35) ?_ wr.heap.size 0 (encO o).toArray ?_ ?_ ?_ ?_ (all_oneCell_toArray (encO_one o)) ?_); rfl; rfl; rfl; rfl; exact there_op wr; kernel_rfl; (generalize hZ : World.setCells _ _ _ _ = Z); (have HZ := Lib.hid (boxed_op hZ)); clear hZ; (have cz : Z.cell? ⟨wr.heap.size, 1, none⟩ = some (.int .i64 o.now) := (HZ.out.1.cell 1).trans rfl); go_frame))
            refine (HA.out Z).mono ?_
            rintro e W2 ⟨rfl, hB2⟩
            go_wp2_with fail
            go_ret
            have hb1 := HB.out.trans (HI.out.2.1.mono HB.out.size)
            have hb2 := hb1.trans (HZ.out.2.mono hb1.size)
            exact ⟨rfl, hb2.trans (hB2.mono hb2.size)⟩
          · have z3 : decide (1152921504606846976 < o.now) = false := decide_eq_false hbig
            have hnow : o.now ≤ 1152921504606846976 := by omega
            clear hbig
            go_wp2_with (first
              | ((with_reducible refine wpList_load_mid ?_ 45 (.tmp 34) ?_ g (off + k * 34) ?_ (encO o) _ HRg.out Try.underlying45 ?_ ?_ ?_); rfl; rfl; rfl; rfl; kernel_rfl)
              | ((with_reducible refine wpList_load_mid ?_ 45 (.tmp 9) ?_ wr.heap.size 0 ?_ (encO o) _ HZ.out.1.all Try.underlying45 ?_ ?_ ?_); rfl; rfl; rfl; rfl; kernel_rfl)
              | ((with_reducible refine wpList_store_mid ?_ 45 (.tmp 9) (.tmp 35) ?_ wr.heap.size 0 (encO o).toArray ?_ ?_ ?_ ?_ (all_oneCell_toArray (encO_one o)) ?_); rfl; rfl; rfl; rfl; exact there_op wr; kernel_rfl; (generalize hZ : World.setCells _ _ _ _ = Z); (have HZ := Lib.hid (boxed_op hZ)); clear hZ; (have cz : Z.cell? ⟨wr.heap.size, 1, none⟩ = some (.int .i64 o.now) := (HZ.out.1.cell 1).trans rfl); go_frame))
            have hs := HZ.out.1.lt
            have hTZ := HI.out.1.add HZ.out.2 hs
            refine (does_l hTZ o HOK.out.1).mono ?_
            rintro e W3 ⟨rfl, hT3, hK3⟩
            have hbox := hK3.blk HZ.out.1 (by simp)
            have c3 : W3.cell? ⟨wr.heap.size, 1, none⟩ = some (.int .i64 o.now) := (hbox.cell 1).trans rfl
            have H3 : Hid (TabL V.heap.size [] W3 T [o0, o1, o2, o3, o4, o5, o6, o7] (4 * every) (doesL [o0, o1, o2, o3, o4, o5, o6, o7] (4 * every) L o).1 ∧ Below V.heap.size V W3 ∧ Upto (max lt o.now) (doesL [o0, o1, o2, o3, o4, o5, o6, o7] (4 * every) L o).1) :=
              ⟨hT3.less (by simp), (HI.out.2.1.trans (HZ.out.2.mono HI.out.2.1.size)).trans hK3.below, does_upto HI.out.2.2 o⟩
            clear hs hTZ hT3 hK3 hbox cz
            go_wp2_with fail
            go_roundw
            case rel => exact ⟨k + 1, by omega, by go_num, max lt o.now, rfl, ⟨by omega, by omega⟩, _, H3⟩
            case measure => simp [intOf]; omega
        · obtain rfl : k = n := by omega
          have z2 : decide ((k : Int) < k) = false := decide_eq_false (by omega)
          go_wp2_with fail
          refine (HA.out _).mono ?_
          rintro e W2 ⟨rfl, hB2⟩
          have HBw : Hid (Below V.heap.size V W2) := HI.out.2.1.trans (hB2.mono HI.out.2.1.size)
          have ce : W2.cell? ⟨w.heap.size, 8, none⟩ = some (.int .i64 every) := (HBw.out.cell (p := ⟨w.heap.size, 8, none⟩) (by show w.heap.size < _; omega)).trans ((HX.out.cell 8).trans rfl)
          have HT2 := Lib.hid (HI.out.1.later hB2)
          have wr1 : IntKind.i64.wrap (4 * every) = 4 * every := wrap_in (by omega) (by omega)
          have wr2 : IntKind.i64.wrap (lt + 4 * every) = lt + 4 * every := wrap_in (by omega) (by omega)
          clear hB2
          go_wp2_with fail
          refine (qual_l HT2.out (lt + 4 * every) (by omega) (by omega)).mono ?_
          rintro e W4 ⟨v, rfl, hS, _, hK4, _⟩
          rw [qual_ends HI.out.2.2] at hS
          obtain ⟨q4, c4, rfl, _⟩ := hS
          have HB4 : Hid (Below w.heap.size w W4) := (HB.out.trans (HBw.out.mono HB.out.size)).trans (hK4.below.mono HB.out.size)
          clear hK4
          go_wp2_with fail
          go_ret
          exact ⟨rfl, HB4.out⟩
end Go.Proofs.Ytmjmoihggojpiaa
