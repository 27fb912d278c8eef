/- The walk of (*Table).Qualified. -/
import Derived.Test.YtmjmoihggojpiaaForHearD
import Derived.Great.BuildSlice
set_option linter.unusedSimpArgs false
set_option linter.unusedVariables false
namespace Go.Proofs.Ytmjmoihggojpiaa
open Go Go.Maps Go.RowKit Go.Shelf Go.Sort Go.Lib

def okT (win now x : Int) : Bool := decide (x ≤ now ∧ now - win < x)
def cntT (win now : Int) (e : En) (j : Nat) : Nat := (([e.t0, e.t1].take j).filter (okT win now)).length
theorem cntT_le (win now : Int) (e : En) (j : Nat) : cntT win now e j ≤ 2 := by
  unfold cntT
  refine Nat.le_trans (List.length_filter_le _ _) ?_
  rw [List.length_take]; simp; omega
theorem often_cnt (win now : Int) (e : En) (h : 1 ≤ e.many ∧ e.many ≤ 2) : often win now e = decide (cntT win now e e.many.toNat = 2) := by
  obtain h1 | h1 : e.many = 1 ∨ e.many = 2 := by omega
  · have h2 : cntT win now e e.many.toNat ≤ 1 := by
      unfold cntT
      refine Nat.le_trans (List.length_filter_le _ _) ?_
      rw [List.length_take, h1]
      exact Nat.min_le_left _ _
    unfold often
    rw [decide_eq_decide]
    constructor
    · intro h3; omega
    · intro h3; omega
  · unfold often cntT
    rw [h1]
    simp only [show (2 : Int).toNat = 2 from rfl, List.take_succ_cons, List.take_zero, List.filter_cons, List.filter_nil]
    by_cases a : okT win now e.t0 = true
    · by_cases b : okT win now e.t1 = true
      · simp only [okT, decide_eq_true_eq] at a b
        simp [okT, a, b]
      · simp only [okT, decide_eq_true_eq] at a b
        simp [okT, a, b]
        try omega
    · by_cases b : okT win now e.t1 = true
      · simp only [okT, decide_eq_true_eq] at a b
        simp [okT, a, b]
        try omega
      · simp only [okT, decide_eq_true_eq] at a b
        simp [okT, a, b]
        try omega
theorem cnt_succ (win now : Int) (e : En) (j : Nat) (x : Int) (hj : ([e.t0, e.t1])[j]? = some x) : cntT win now e (j + 1) = if okT win now x = true then cntT win now e j + 1 else cntT win now e j := by
  unfold cntT
  rw [List.take_add_one, hj, Option.toList_some, List.filter_append, List.length_append]
  cases h : okT win now x <;> simp [h]

/-- A slice of just these sets. -/
def SetsAt (w : World) (v : Value) (ss : List St) : Prop := ∃ q cap, v = .slice q ss.length cap ∧ ∀ i, i < ss.length → ∃ g, q = some ⟨g, 0, none⟩ ∧ g < w.heap.size ∧ w.rangeAt g (i * 32) (encS ss[i]!)
theorem SetsAt.below {w w' : World} {v : Value} {ss : List St} (h : SetsAt w v ss) {B : Nat} (hb : Below B w w') (hB : w.heap.size ≤ B) : SetsAt w' v ss := by
  obtain ⟨q, cap, rfl, hc⟩ := h
  refine ⟨q, cap, rfl, fun i hi => ?_⟩
  obtain ⟨g, h1, h2, h3⟩ := hc i hi
  exact ⟨g, h1, Nat.lt_of_lt_of_le h2 hb.size, fun j x hx => (hb.cell (p := ⟨g, i * 32 + j, none⟩) (by show g < B; omega)).trans (h3 j x hx)⟩
theorem flatS_get (ss : List St) (i c : Nat) (hi : i < ss.length) (hc : c < 32) : (ss.flatMap encS)[i * 32 + c]? = some ((encS ss[i]!)[c]!) := by
  induction ss generalizing i with
  | nil => simp at hi
  | cons p ps ih =>
    rw [List.flatMap_cons]
    have hl : (encS p).length = 32 := rfl
    cases i with
    | zero =>
      rw [Nat.zero_mul, Nat.zero_add, List.getElem?_append_left (by omega)]
      rw [List.getElem?_eq_getElem (by omega)]
      simp [getElem!_pos (encS p) c (by omega)]
    | succ i =>
      rw [List.getElem?_append_right (by omega), hl, show (i + 1) * 32 + c - 32 = i * 32 + c by omega, ih i (by simpa using hi)]
      simp
theorem setsAt_owns {w : World} {base : Nat} {v : Value} {ss : List St} (h : w.ownsRow base 31 32 v ss.length (ss.flatMap encS)) : SetsAt w v ss := by
  rcases h.2 with ⟨rfl, h0⟩ | ⟨g, cap, cur, rfl, hbg, hgb, hr1, hr2, hr3, hr4⟩
  · obtain rfl := List.length_eq_zero_iff.1 h0
    exact ⟨none, 0, rfl, fun i hi => by simp at hi⟩
  · refine ⟨_, cap, rfl, fun i hi => ⟨g, rfl, (Array.getElem?_eq_some_iff.1 hgb).1, fun c v hv => ?_⟩⟩
    have hc : c < 32 := (List.getElem?_eq_some_iff.1 hv).1
    have h2 := flatS_get ss i c hi hc
    have h1 : cur[i * 32 + c]? = (ss.flatMap encS)[i * 32 + c]? := by
      rw [← hr4, List.getElem?_take_of_lt (by omega), Array.getElem?_toList]
    have : w.cell? ⟨g, i * 32 + c, none⟩ = cur[i * 32 + c]? := by simp [World.cell?, hgb]
    rw [this, h1, h2, getElem!_pos (encS ss[i]!) c hc]
    rw [List.getElem?_eq_getElem hc] at hv
    exact hv
theorem infoSet : (Try.prog.info? 31).map (fun i => (i.zero, i.size, i.bytes)) = some (some (.agg #[.int .i64 0, .int .i64 0, .int .i64 0, .int .i64 0, .int .i64 0, .int .u8 0, .int .u8 0, .int .u8 0, .int .u8 0, .int .u8 0, .int .u8 0, .int .u8 0, .int .u8 0, .int .i64 0,
    .int .u8 0, .int .u8 0, .int .u8 0, .int .u8 0, .int .u8 0, .int .u8 0, .int .u8 0, .int .u8 0, .int .i64 0, .int .u8 0, .int .u8 0, .int .u8 0, .int .u8 0, .int .u8 0, .int .u8 0, .int .u8 0, .int .u8 0, .int .i64 0]), 32, 88) := by kernel_rfl
theorem portsRow {w : World} {v : Value} {ps : List Pt} (h : PortsAt w v ps) : ∃ q cap, v = .slice q ps.length cap ∧ ∀ i, i < ps.length → ∃ g, q = some ⟨g, 0, none⟩ ∧ g < w.heap.size ∧ w.rangeAt g (i * 9) (encP ps[i]!) := by
  rcases h with ⟨rfl, rfl⟩ | ⟨g, cap, h1, h2, h3⟩
  · exact ⟨none, 0, rfl, fun i hi => by simp at hi⟩
  · exact ⟨_, cap, h1, fun i hi => ⟨g, rfl, h2, h3 i hi⟩⟩
theorem run_buildSet (s : St) (w : World) : (Instr.buildSlice 38 1 #[(0, .agg (encS s).toArray)]).run Try.prog w = .ok (.slice (some ⟨w.heap.size, 0, none⟩) 1 1) (w.alloc (.cells (encS s).toArray 31)) := by
  obtain ⟨i0, hi, hz0, hz1, hz2⟩ := info_parts infoSet
  refine run_buildSlice w 38 31 1 _ (encS s).toArray i0 _ Try.underlying38 hi hz0 (by rw [hz1]; decide) (by rw [hz1]; decide) ?_
  rw [hz1]
  kernel_rfl
theorem wpList_buildSet (s : St) {ops : Array Oper} {rest : List Oper} {o : Oper} {a : Act} {w : World} {Q : Exit → Act → World → Prop} (hg : o.guard = none) (x : Operand) (ho : o.op = .buildSlice 38 1 #[(0, x)]) (hx : a.eval x = .agg (encS s).toArray)
    (h : wpList Try.prog ops Q rest (a.put o.dst (.slice (some ⟨w.heap.size, 0, none⟩) 1 1)) (w.alloc (.cells (encS s).toArray 31))) : wpList Try.prog ops Q (o :: rest) a w :=
  wpList_plain hg fun _ hK => by
    unfold Oper.wp execOp
    have := run_buildSet s w
    simp only [ho, Sem.run_bind, List.map_toArray, List.map_cons, List.map_nil, hx, this, Result.andThen_ok]
    exact hK _ _ h
def oftX (win now : Int) (x : En × Nat) : Bool := often win now x.1

/-- A set's cells, one by one. -/
structure Cells32 (w : World) (g : Nat) (s : St) : Prop where
  c0 : w.cell? ⟨g, 0, none⟩ = some (.int .i64 s.p1)
  c1 : w.cell? ⟨g, 1, none⟩ = some (.int .i64 s.p2)
  c2 : w.cell? ⟨g, 2, none⟩ = some (.int .i64 s.q0)
  c3 : w.cell? ⟨g, 3, none⟩ = some (.int .i64 s.q1)
  c4 : w.cell? ⟨g, 4, none⟩ = some (.int .i64 s.q2)
  c5 : w.cell? ⟨g, 5, none⟩ = some (.int .u8 s.g0)
  c6 : w.cell? ⟨g, 6, none⟩ = some (.int .u8 s.g1)
  c7 : w.cell? ⟨g, 7, none⟩ = some (.int .u8 s.g2)
  c8 : w.cell? ⟨g, 8, none⟩ = some (.int .u8 s.g3)
  c9 : w.cell? ⟨g, 9, none⟩ = some (.int .u8 s.g4)
  c10 : w.cell? ⟨g, 10, none⟩ = some (.int .u8 s.g5)
  c11 : w.cell? ⟨g, 11, none⟩ = some (.int .u8 s.g6)
  c12 : w.cell? ⟨g, 12, none⟩ = some (.int .u8 s.g7)
  c13 : w.cell? ⟨g, 13, none⟩ = some (.int .i64 s.steps)
  c14 : w.cell? ⟨g, 14, none⟩ = some (.int .u8 s.sender.a0)
  c15 : w.cell? ⟨g, 15, none⟩ = some (.int .u8 s.sender.a1)
  c16 : w.cell? ⟨g, 16, none⟩ = some (.int .u8 s.sender.a2)
  c17 : w.cell? ⟨g, 17, none⟩ = some (.int .u8 s.sender.a3)
  c18 : w.cell? ⟨g, 18, none⟩ = some (.int .u8 s.sender.a4)
  c19 : w.cell? ⟨g, 19, none⟩ = some (.int .u8 s.sender.a5)
  c20 : w.cell? ⟨g, 20, none⟩ = some (.int .u8 s.sender.a6)
  c21 : w.cell? ⟨g, 21, none⟩ = some (.int .u8 s.sender.a7)
  c22 : w.cell? ⟨g, 22, none⟩ = some (.int .i64 s.sender.n)
  c23 : w.cell? ⟨g, 23, none⟩ = some (.int .u8 s.recv.a0)
  c24 : w.cell? ⟨g, 24, none⟩ = some (.int .u8 s.recv.a1)
  c25 : w.cell? ⟨g, 25, none⟩ = some (.int .u8 s.recv.a2)
  c26 : w.cell? ⟨g, 26, none⟩ = some (.int .u8 s.recv.a3)
  c27 : w.cell? ⟨g, 27, none⟩ = some (.int .u8 s.recv.a4)
  c28 : w.cell? ⟨g, 28, none⟩ = some (.int .u8 s.recv.a5)
  c29 : w.cell? ⟨g, 29, none⟩ = some (.int .u8 s.recv.a6)
  c30 : w.cell? ⟨g, 30, none⟩ = some (.int .u8 s.recv.a7)
  c31 : w.cell? ⟨g, 31, none⟩ = some (.int .i64 s.recv.n)
theorem cells32 {w : World} {g : Nat} {s : St} (h : w.rangeAt g 0 (encS s)) : Cells32 w g s := by
  constructor
  · exact h 0 _ rfl
  · exact h 1 _ rfl
  · exact h 2 _ rfl
  · exact h 3 _ rfl
  · exact h 4 _ rfl
  · exact h 5 _ rfl
  · exact h 6 _ rfl
  · exact h 7 _ rfl
  · exact h 8 _ rfl
  · exact h 9 _ rfl
  · exact h 10 _ rfl
  · exact h 11 _ rfl
  · exact h 12 _ rfl
  · exact h 13 _ rfl
  · exact h 14 _ rfl
  · exact h 15 _ rfl
  · exact h 16 _ rfl
  · exact h 17 _ rfl
  · exact h 18 _ rfl
  · exact h 19 _ rfl
  · exact h 20 _ rfl
  · exact h 21 _ rfl
  · exact h 22 _ rfl
  · exact h 23 _ rfl
  · exact h 24 _ rfl
  · exact h 25 _ rfl
  · exact h 26 _ rfl
  · exact h 27 _ rfl
  · exact h 28 _ rfl
  · exact h 29 _ rfl
  · exact h 30 _ rfl
  · exact h 31 _ rfl

/-- Within a round. -/
structure Inn (W : World) (T : Nat) (win : Int) (x : En × Nat) (v : Value) (ss : List St) (w : World) : Prop where
  c8 : w.cell? ⟨T, 8, none⟩ = some (.int .i64 win)
  t0 : w.cell? ⟨x.2, 32, none⟩ = some (.int .i64 x.1.t0)
  t1 : w.cell? ⟨x.2, 33, none⟩ = some (.int .i64 x.1.t1)
  below : Below W.heap.size W w
  row : w.ownsRow W.heap.size 31 32 v ss.length (ss.flatMap encS)
  ent : EntAt w x.2 x.1

set_option maxRecDepth 100000 in
set_option maxHeartbeats 8000000 in
theorem qual_t {base : Nat} {w : World} {T : Nat} {own : List Int} {win : Int} {mb : Nat} {l : List (En × Nat)} (h : TabAt base w T own win mb l) (now : Int) (hn0 : -4611686018427387904 ≤ now) (hn1 : now ≤ 9223372036854775807) :
    Calls Try.prog 12 #[.pointer (some ⟨T, 0, none⟩), .int .i64 now] w fun r w' => ∃ v, r = .returned v ∧ SetsAt w' v (qual win now (l.map (·.1))) ∧ Below w.heap.size w w' := by
  have hS := senders_t T mb (l.map fun x => (keyX x, x.2)) (by have := h.few; simp; omega) w h.cmap h.map
  rw [show (l.map fun x => (keyX x, x.2)).map (·.1) = l.map keyX by simp] at hS
  have H := Lib.hid h
  have HS := Lib.hid hS
  clear h hS
  go_enter Try.func12, Try.ntmps12
  go_wp2_with fail
  refine HS.out.mono ?_
  rintro e W ⟨v, ps, rfl, hperm, hascp, hports, hBW⟩
  obtain rfl : ps = l.map keyX := asc_unique hascp H.out.asc hperm
  obtain ⟨q, cap, rfl, hcells⟩ := portsRow hports
  rw [List.length_map] at hcells ⊢
  obtain ⟨n, hn⟩ : ∃ n, n = l.length := ⟨_, rfl⟩
  have hn5 : n ≤ 5 := by have := H.out.few; omega
  rw [← hn] at hcells ⊢
  have HTW : Hid (TabAt base W T own win mb l) := H.out.below hBW (Nat.le_refl _)
  have HBW : Hid (Below w.heap.size w W) := hBW
  have HC := Lib.hid (And.intro hcells hn)
  have hlw := HTW.out.win_
  clear hperm hascp hports hBW hcells hn HS H
  obtain ⟨i0, hi, hz0, hz1, hz2⟩ := info_parts infoSet
  go_wp2_with fail
  go_loopw [5, 15] (fun v5 i wr => ∃ k : Nat, k ≤ n ∧ i = .int .i64 k ∧ Hid (Below W.heap.size W wr ∧ wr.ownsRow W.heap.size 31 32 v5 (((l.take k).filter (oftX win now)).map (·.1.s)).length ((((l.take k).filter (oftX win now)).map (·.1.s)).flatMap encS))) (fun v5 i _ => n - (intOf i).toNat)
  case atStart => exact ⟨0, by omega, rfl, Below.refl _ _, rfl, .inl ⟨rfl, rfl⟩⟩
  case round =>
    obtain ⟨k, hk, rfl, HR⟩ := hrel
    by_cases hlt : k < n
    · obtain ⟨x, hx⟩ : ∃ x, x = l[k]! := ⟨_, rfl⟩
      have hk' : k < l.length := by have := HC.out.2; omega
      have hxm : x ∈ l := by rw [hx, getElem!_pos l k hk']; exact List.getElem_mem _
      obtain ⟨g, rfl, hg, hX0⟩ := HC.out.1 k hlt
      have hX : wr.rangeAt g (k * 9) (encP (keyX x)) := by
        rw [show (l.map keyX)[k]! = keyX x by rw [hx]; simp [hk']] at hX0
        exact fun j v hv => (HR.out.1.cell (p := ⟨g, k * 9 + j, none⟩) hg).trans (hX0 j v hv)
      obtain ⟨a0, a1, a2, a3, a4, a5, a6, a7, a8⟩ := nineAt hX
      obtain ⟨U, hU⟩ : ∃ U, U = wr.alloc (.cells (encP (keyX x)).toArray 29) := ⟨_, rfl⟩
      have hWU : Below W.heap.size W U := by rw [hU]; exact HR.out.1.alloc HR.out.1.size _
      have hTU := HTW.out.below hWU (Nat.le_refl _)
      have hbx : U.heap[wr.heap.size]? = some (.cells (encP (keyX x)).toArray 29 (0, 0)) := by rw [hU]; exact World.alloc_heap_new wr _
      have hrow : U.ownsRow W.heap.size 31 32 u5 (((l.take k).filter (oftX win now)).map (·.1.s)).length ((((l.take k).filter (oftX win now)).map (·.1.s)).flatMap encS) := by rw [hU]; exact HR.out.2.alloc _
      have HU := Lib.hid (And.intro hU (And.intro hWU (And.intro hTU (And.intro hbx (And.intro hrow (And.intro hxm hx))))))
      clear hU hWU hTU hbx hrow hxm hx hX hX0
      have z2 : decide ((k : Int) < n) = true := decide_eq_true (by omega)
      have k0 : (0 : Int) ≤ (k : Int) := by omega
      have k1 : (k : Int) < n := by omega
      go_wp2_with fail
      rw [← HU.out.1]
      clear a0 a1 a2 a3 a4 a5 a6 a7 a8
      obtain ⟨x0, x1, x2, x3, x4, x5, x6, x7, x8⟩ := nine_cells HU.out.2.2.2.1
      have c8 := HU.out.2.2.1.cwin
      have c9 := HU.out.2.2.1.cmap
      have look : ∀ q, (Instr.lookup 61 (.map (some mb)) (.agg (encP (keyX x)).toArray) false).run Try.prog (U.drewN q) = .ok (.pointer (some ⟨x.2, 0, none⟩)) (U.drewN q) := fun q => (HU.out.2.2.1.drewN q).look1 HU.out.2.2.2.2.2.1
      have HEX := Lib.hid (HU.out.2.2.1.ents x HU.out.2.2.2.2.2.1)
      have e0 := HEX.out.t0
      have e1 := HEX.out.t1
      have e2 := HEX.out.many
      have hmany := HU.out.2.2.1.many x HU.out.2.2.2.2.2.1
      have wr1 : IntKind.i64.wrap (now - win) = now - win := wrap_in (by omega) (by omega)
      obtain hmn | hmn : x.1.many = 1 ∨ x.1.many = 2 := by omega
      · rw [hmn] at e2
        have HMN := Lib.hid (show x.1.many.toNat = 1 by rw [hmn]; rfl)
        clear hmn
        go_quiet (fail)
        go_wp2_with fail
        go_quiet (fail)
        go_wp2_with fail
        generalize hU2 : World.drewN (World.drewN U _) _ = U2
        have HI : Hid (Inn W T win x u5 (((l.take k).filter (oftX win now)).map (·.1.s)) U2) := by
          rw [← hU2]
          exact ⟨c8, e0, e1, below_drewN (below_drewN HU.out.2.1 _) _, HU.out.2.2.2.2.1, HEX.out⟩
        clear hU2 look x0 x1 x2 x3 x4 x5 x6 x7 x8 c8 c9 e0 e1 e2
        go_loopw [9, 34] (fun c j wr2 => ∃ jj : Nat, jj ≤ 1 ∧ j = .int .i64 jj ∧ c = .int .i64 (cntT win now x.1 jj) ∧ Hid (Inn W T win x u5 (((l.take k).filter (oftX win now)).map (·.1.s)) wr2)) (fun _ j _ => 1 - (intOf j).toNat)
        case atStart => exact ⟨0, by omega, rfl, rfl, HI⟩
        case round =>
          clear HI
          obtain ⟨jj, hj, rfl, rfl, HI⟩ := hrel
          have hc2 := cntT_le win now x.1 jj
          by_cases hjl : jj < 1
          · obtain ⟨tt, htt, hct⟩ : ∃ tt, ([x.1.t0, x.1.t1])[jj]? = some tt ∧ wr.cell? ⟨x.2, 32 + jj, none⟩ = some (.int .i64 tt) := by
              obtain rfl | rfl : jj = 0 ∨ jj = 1 := by omega
              · exact ⟨_, rfl, HI.out.t0⟩
              · exact ⟨_, rfl, HI.out.t1⟩
            have HCS := Lib.hid (cnt_succ win now x.1 jj tt htt)
            have c8 := HI.out.c8
            have j0 : (0 : Int) ≤ (jj : Int) := by omega
            have j1 : (jj : Int) < 1 := by omega
            generalize cntT win now x.1 jj = cn at *
            have wrc : IntKind.i64.wrap ((cn : Int) + 1) = cn + 1 := wrap_in (by omega) (by omega)
            clear htt hjl
            by_cases a : tt ≤ now
            · have za : decide (tt ≤ now) = true := decide_eq_true a
              by_cases b : now - win < tt
              · have zb : decide (now - win < tt) = true := decide_eq_true b
                rw [show okT win now tt = true by unfold okT; exact decide_eq_true ⟨a, b⟩, if_pos rfl] at HCS
                go_wp2_with fail
                go_roundw
                case rel => exact ⟨jj + 1, by omega, by go_num, by rw [HCS.out]; go_num, HI⟩
                case measure => simp [intOf]; omega
              · have zb : decide (now - win < tt) = false := decide_eq_false b
                rw [show okT win now tt = false by unfold okT; exact decide_eq_false (fun h => b h.2), if_neg (by simp)] at HCS
                go_wp2_with fail
                go_roundw
                case rel => exact ⟨jj + 1, by omega, by go_num, by rw [HCS.out], HI⟩
                case measure => simp [intOf]; omega
            · have za : decide (tt ≤ now) = false := decide_eq_false a
              rw [show okT win now tt = false by unfold okT; exact decide_eq_false (fun h => a h.1), if_neg (by simp)] at HCS
              go_wp2_with fail
              go_roundw
              case rel => exact ⟨jj + 1, by omega, by go_num, by rw [HCS.out], HI⟩
              case measure => simp [intOf]; omega
          · obtain rfl : jj = 1 := by omega
            have HO : oftX win now x = decide (cntT win now x.1 1 = 2) := by unfold oftX; rw [often_cnt win now x.1 hmany, HMN.out]
            have HK := Lib.hid (take_filter (oftX win now) l k (by have := HC.out.2; omega))
            rw [show l[k]! = x from HU.out.2.2.2.2.2.2.symm, HO] at HK
            have hr2 := HI.out.row
            have hs2 : W.heap.size ≤ wr.heap.size := HI.out.below.size
            have hset : wr.rangeAt x.2 0 (encS x.1.s) := HI.out.ent.range 0 _ fun j v hv => by
              have hj : j < (encS x.1.s).length := (List.getElem?_eq_some_iff.1 hv).1
              rw [Nat.zero_add]
              unfold encE
              rw [List.getElem?_append_left hj]; exact hv
            have HSet := Lib.hid hset
            have hlen : (((l.take k).filter (oftX win now)).map (·.1.s)).length ≤ 5 := by
              rw [List.length_map]
              have h1 := List.length_filter_le (oftX win now) (l.take k)
              rw [List.length_take] at h1
              omega
            clear HO hset
            generalize cntT win now x.1 1 = cn at *
            by_cases hc : cn = 2
            · subst hc
              go_wp2_with (first
                | ((with_reducible refine wpList_load_mid ?_ 31 (.tmp 59) ?_ x.2 0 ?_ (encS x.1.s) _ HSet.out Try.underlying31 ?_ ?_ ?_); rfl; rfl; rfl; rfl; kernel_rfl)
                | ((with_reducible refine wpList_buildSet x.1.s ?_ (.tmp 60) ?_ ?_ ?_); rfl; rfl; rfl)
                | (at_builtin; refine wpList_append_own _ rfl _ _ 38 rfl W.heap.size 31 i0 _ 32 88 Try.underlying38 hi hz0 hz1 hz2 rfl (by decide) _ _ _ rfl (hr2.alloc _) ⟨wr.heap.size, 0, none⟩ 1 1 (encS x.1.s) rfl rfl (cells_new _ _ _) (encS_one _) (by unfold maxLen; omega) (by omega) (by simp; omega) ?_; intro v' w3 hown' hg3 hnil3; go_frame))
              go_roundw
              case rel =>
                refine ⟨k + 1, by omega, by go_num, ?_, ?_⟩
                · have hg3' : (wr.alloc (.cells (encS x.1.s).toArray 31)).grownBy w3 u5.ownBlock := hg3
                  refine (HI.out.below.alloc hs2 _).grown hg3' (by simp; omega) (fun j ej => ?_)
                  rcases hr2.2 with ⟨e1, _⟩ | ⟨g', cap', cur', e1, hb', _, _⟩
                  · rw [e1] at ej; simp [Value.ownBlock] at ej
                  · rw [e1] at ej
                    obtain rfl : g' = j := by simpa [Value.ownBlock] using ej
                    exact hb'
                · have HK2 := HK.out
                  simp only [decide_true, if_true] at HK2
                  rw [HK2]; simpa using hown'
              case measure => simp [intOf]; omega
            · have z5 : ((cn : Int) == 2) = false := by simp; omega
              have z6 : ¬ (cn : Int) = 2 := by omega
              go_wp2_with fail
              go_roundw
              case rel =>
                refine ⟨k + 1, by omega, by go_num, HI.out.below, ?_⟩
                have HK2 := HK.out
                rw [decide_eq_false hc] at HK2
                simp only [Bool.false_eq_true, if_false] at HK2
                rw [HK2]; exact HI.out.row
              case measure => simp [intOf]; omega
      · rw [hmn] at e2
        have HMN := Lib.hid (show x.1.many.toNat = 2 by rw [hmn]; rfl)
        clear hmn
        go_quiet (fail)
        go_wp2_with fail
        go_quiet (fail)
        go_wp2_with fail
        generalize hU2 : World.drewN (World.drewN U _) _ = U2
        have HI : Hid (Inn W T win x u5 (((l.take k).filter (oftX win now)).map (·.1.s)) U2) := by
          rw [← hU2]
          exact ⟨c8, e0, e1, below_drewN (below_drewN HU.out.2.1 _) _, HU.out.2.2.2.2.1, HEX.out⟩
        clear hU2 look x0 x1 x2 x3 x4 x5 x6 x7 x8 c8 c9 e0 e1 e2
        go_loopw [9, 34] (fun c j wr2 => ∃ jj : Nat, jj ≤ 2 ∧ j = .int .i64 jj ∧ c = .int .i64 (cntT win now x.1 jj) ∧ Hid (Inn W T win x u5 (((l.take k).filter (oftX win now)).map (·.1.s)) wr2)) (fun _ j _ => 2 - (intOf j).toNat)
        case atStart => exact ⟨0, by omega, rfl, rfl, HI⟩
        case round =>
          clear HI
          obtain ⟨jj, hj, rfl, rfl, HI⟩ := hrel
          have hc2 := cntT_le win now x.1 jj
          by_cases hjl : jj < 2
          · obtain ⟨tt, htt, hct⟩ : ∃ tt, ([x.1.t0, x.1.t1])[jj]? = some tt ∧ wr.cell? ⟨x.2, 32 + jj, none⟩ = some (.int .i64 tt) := by
              obtain rfl | rfl : jj = 0 ∨ jj = 1 := by omega
              · exact ⟨_, rfl, HI.out.t0⟩
              · exact ⟨_, rfl, HI.out.t1⟩
            have HCS := Lib.hid (cnt_succ win now x.1 jj tt htt)
            have c8 := HI.out.c8
            have j0 : (0 : Int) ≤ (jj : Int) := by omega
            have j1 : (jj : Int) < 2 := by omega
            generalize cntT win now x.1 jj = cn at *
            have wrc : IntKind.i64.wrap ((cn : Int) + 1) = cn + 1 := wrap_in (by omega) (by omega)
            clear htt hjl
            by_cases a : tt ≤ now
            · have za : decide (tt ≤ now) = true := decide_eq_true a
              by_cases b : now - win < tt
              · have zb : decide (now - win < tt) = true := decide_eq_true b
                rw [show okT win now tt = true by unfold okT; exact decide_eq_true ⟨a, b⟩, if_pos rfl] at HCS
                go_wp2_with fail
                go_roundw
                case rel => exact ⟨jj + 1, by omega, by go_num, by rw [HCS.out]; go_num, HI⟩
                case measure => simp [intOf]; omega
              · have zb : decide (now - win < tt) = false := decide_eq_false b
                rw [show okT win now tt = false by unfold okT; exact decide_eq_false (fun h => b h.2), if_neg (by simp)] at HCS
                go_wp2_with fail
                go_roundw
                case rel => exact ⟨jj + 1, by omega, by go_num, by rw [HCS.out], HI⟩
                case measure => simp [intOf]; omega
            · have za : decide (tt ≤ now) = false := decide_eq_false a
              rw [show okT win now tt = false by unfold okT; exact decide_eq_false (fun h => a h.1), if_neg (by simp)] at HCS
              go_wp2_with fail
              go_roundw
              case rel => exact ⟨jj + 1, by omega, by go_num, by rw [HCS.out], HI⟩
              case measure => simp [intOf]; omega
          · obtain rfl : jj = 2 := by omega
            have HO : oftX win now x = decide (cntT win now x.1 2 = 2) := by unfold oftX; rw [often_cnt win now x.1 hmany, HMN.out]
            have HK := Lib.hid (take_filter (oftX win now) l k (by have := HC.out.2; omega))
            rw [show l[k]! = x from HU.out.2.2.2.2.2.2.symm, HO] at HK
            have hr2 := HI.out.row
            have hs2 : W.heap.size ≤ wr.heap.size := HI.out.below.size
            have hset : wr.rangeAt x.2 0 (encS x.1.s) := HI.out.ent.range 0 _ fun j v hv => by
              have hj : j < (encS x.1.s).length := (List.getElem?_eq_some_iff.1 hv).1
              rw [Nat.zero_add]
              unfold encE
              rw [List.getElem?_append_left hj]; exact hv
            have HSet := Lib.hid hset
            have hlen : (((l.take k).filter (oftX win now)).map (·.1.s)).length ≤ 5 := by
              rw [List.length_map]
              have h1 := List.length_filter_le (oftX win now) (l.take k)
              rw [List.length_take] at h1
              omega
            clear HO hset
            generalize cntT win now x.1 2 = cn at *
            by_cases hc : cn = 2
            · subst hc
              go_wp2_with (first
                | ((with_reducible refine wpList_load_mid ?_ 31 (.tmp 59) ?_ x.2 0 ?_ (encS x.1.s) _ HSet.out Try.underlying31 ?_ ?_ ?_); rfl; rfl; rfl; rfl; kernel_rfl)
                | ((with_reducible refine wpList_buildSet x.1.s ?_ (.tmp 60) ?_ ?_ ?_); rfl; rfl; rfl)
                | (at_builtin; refine wpList_append_own _ rfl _ _ 38 rfl W.heap.size 31 i0 _ 32 88 Try.underlying38 hi hz0 hz1 hz2 rfl (by decide) _ _ _ rfl (hr2.alloc _) ⟨wr.heap.size, 0, none⟩ 1 1 (encS x.1.s) rfl rfl (cells_new _ _ _) (encS_one _) (by unfold maxLen; omega) (by omega) (by simp; omega) ?_; intro v' w3 hown' hg3 hnil3; go_frame))
              go_roundw
              case rel =>
                refine ⟨k + 1, by omega, by go_num, ?_, ?_⟩
                · have hg3' : (wr.alloc (.cells (encS x.1.s).toArray 31)).grownBy w3 u5.ownBlock := hg3
                  refine (HI.out.below.alloc hs2 _).grown hg3' (by simp; omega) (fun j ej => ?_)
                  rcases hr2.2 with ⟨e1, _⟩ | ⟨g', cap', cur', e1, hb', _, _⟩
                  · rw [e1] at ej; simp [Value.ownBlock] at ej
                  · rw [e1] at ej
                    obtain rfl : g' = j := by simpa [Value.ownBlock] using ej
                    exact hb'
                · have HK2 := HK.out
                  simp only [decide_true, if_true] at HK2
                  rw [HK2]; simpa using hown'
              case measure => simp [intOf]; omega
            · have z5 : ((cn : Int) == 2) = false := by simp; omega
              have z6 : ¬ (cn : Int) = 2 := by omega
              go_wp2_with fail
              go_roundw
              case rel =>
                refine ⟨k + 1, by omega, by go_num, HI.out.below, ?_⟩
                have HK2 := HK.out
                rw [decide_eq_false hc] at HK2
                simp only [Bool.false_eq_true, if_false] at HK2
                rw [HK2]; exact HI.out.row
              case measure => simp [intOf]; omega
    · obtain rfl : k = n := by omega
      have HE : Hid (wr.ownsRow W.heap.size 31 32 u5 ((l.filter (oftX win now)).map (·.1.s)).length (((l.filter (oftX win now)).map (·.1.s)).flatMap encS)) := by
        have := HR.out.2
        rw [List.take_of_length_le (by have := HC.out.2; omega)] at this
        exact this
      have HB2 := Lib.hid HR.out.1
      clear HR
      have z2 : decide ((k : Int) < k) = false := decide_eq_false (by omega)
      go_wp2_with fail
      go_ret
      refine ⟨_, rfl, ?_, HBW.out.trans (HB2.out.mono HBW.out.size)⟩
      have := setsAt_owns HE.out
      unfold qual
      rw [List.filter_map, List.map_map]
      exact this
end Go.Proofs.Ytmjmoihggojpiaa
