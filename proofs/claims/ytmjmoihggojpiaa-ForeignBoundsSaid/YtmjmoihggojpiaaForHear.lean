/- The walk of (*Table).Hear. -/
import Derived.Test.YtmjmoihggojpiaaForEq
set_option linter.unusedSimpArgs false
set_option linter.unusedVariables false
namespace Go.Proofs.Ytmjmoihggojpiaa
open Go Go.Maps Go.RowKit Go.Shelf Go.Sort Go.Lib

/-- Eight bytes, one by one. -/
structure Eight (W : World) (B o : Nat) (a0 a1 a2 a3 a4 a5 a6 a7 : Int) : Prop where
  c0 : W.cell? ⟨B, o, none⟩ = some (.int .u8 a0)
  c1 : W.cell? ⟨B, o + 1, none⟩ = some (.int .u8 a1)
  c2 : W.cell? ⟨B, o + 2, none⟩ = some (.int .u8 a2)
  c3 : W.cell? ⟨B, o + 3, none⟩ = some (.int .u8 a3)
  c4 : W.cell? ⟨B, o + 4, none⟩ = some (.int .u8 a4)
  c5 : W.cell? ⟨B, o + 5, none⟩ = some (.int .u8 a5)
  c6 : W.cell? ⟨B, o + 6, none⟩ = some (.int .u8 a6)
  c7 : W.cell? ⟨B, o + 7, none⟩ = some (.int .u8 a7)
theorem eight_of {W : World} {B o : Nat} {a0 a1 a2 a3 a4 a5 a6 a7 : Int} (h : W.rangeAt B o (encC [a0, a1, a2, a3, a4, a5, a6, a7])) : Eight W B o a0 a1 a2 a3 a4 a5 a6 a7 :=
  ⟨h 0 _ rfl, h 1 _ rfl, h 2 _ rfl, h 3 _ rfl, h 4 _ rfl, h 5 _ rfl, h 6 _ rfl, h 7 _ rfl⟩

set_option maxRecDepth 100000 in
set_option maxHeartbeats 4000000 in
theorem hear_bad {base : Nat} {w : World} {T : Nat} {own : List Int} {win : Int} {mb : Nat} {l : List (En × Nat)} (h : TabAt base w T own win mb l) (s : St) (hp : s.sender.ok) (now : Int) (hbad : bad own s now = true) :
    Calls Try.prog 11 #[.pointer (some ⟨T, 0, none⟩), .agg (encS s).toArray, .int .i64 now] w fun r w' => r = .returned (.int .i64 0) ∧ Below w.heap.size w w' := by
  obtain ⟨V, hV⟩ : ∃ V, V = w.alloc (.cells (encS s).toArray 31) := ⟨_, rfl⟩
  have hBV : Below w.heap.size w V := by rw [hV]; exact (Below.refl _ w).alloc (Nat.le_refl _) _
  have hTV := h.below hBV (Nat.le_refl _)
  have hbx : Blk V w.heap.size 31 (encS s) := by rw [hV]; exact Blk.new w _ _
  obtain ⟨x0, x1, x2, x3, x4, x5, x6, x7, x8⟩ := nineAt (hbx.range 14 (encP s.sender) (encS_sender s))
  simp only [Nat.reduceAdd] at x1 x2 x3 x4 x5 x6 x7 x8
  have xs : V.cell? ⟨w.heap.size, 13, none⟩ = some (.int .i64 s.steps) := (hbx.cell 13).trans (encS_steps s)
  have c9 := hTV.cmap
  obtain ⟨q, look, hq⟩ := hTV.asks hp
  generalize hd : decide (s.sender ∈ l.map keyX) = dd at look
  have hl := h.len
  have hby := h.bytes
  obtain ⟨o0, o1, o2, o3, o4, o5, o6, o7, rfl⟩ := len8 hl
  obtain ⟨y0, y1, y2, y3, y4, y5, y6, y7⟩ := eight_of hTV.rown
  simp only [Nat.reduceAdd] at y1 y2 y3 y4 y5 y6 y7
  have HV := Lib.hid (And.intro hV (And.intro hBV hTV))
  have heq : ∀ v : World, (binOp .eql 23 (.agg #[.int .u8 s.sender.a0, .int .u8 s.sender.a1, .int .u8 s.sender.a2, .int .u8 s.sender.a3, .int .u8 s.sender.a4, .int .u8 s.sender.a5, .int .u8 s.sender.a6, .int .u8 s.sender.a7]) (.agg #[.int .u8 o0, .int .u8 o1, .int .u8 o2, .int .u8 o3, .int .u8 o4, .int .u8 o5, .int .u8 o6, .int .u8 o7])).run Try.prog v = .ok (.bool (decide (s.sender.clock = [o0, o1, o2, o3, o4, o5, o6, o7]))) v := fun v => (eql_clock s.sender ⟨o0, o1, o2, o3, o4, o5, o6, o7, 0⟩ hp.1 hby v).1
  generalize hcl : decide (s.sender.clock = [o0, o1, o2, o3, o4, o5, o6, o7]) = cl at heq
  clear h hV hBV hTV hbx hq hd hl hby hp
  unfold bad at hbad
  rw [decide_eq_true_eq] at hbad
  have HB := Lib.hid hbad
  clear hbad
  have hcl2 := Lib.hid hcl
  clear hcl
  generalize s.sender = p at *
  obtain ⟨st, hst⟩ : ∃ st, st = s.steps := ⟨_, rfl⟩
  rw [← hst] at xs
  have HST := Lib.hid hst
  clear hst
  go_enter Try.func11, Try.ntmps11
  go_wp2_with fail
  rw [← HV.out.1]
  go_quiet (fail)
  by_cases h1 : now < 0
  · have z1 : decide (now < 0) = true := decide_eq_true h1
    clear h1
    go_wp2_with fail
    go_quiet (fail)
    go_wp2_with fail
    go_ret
    exact ⟨rfl, below_drewN (below_drewN HV.out.2.1 _) _⟩
  · have z1 : decide (now < 0) = false := decide_eq_false h1
    clear h1
    by_cases h2 : 4611686018427387904 < now
    · have z2 : decide (4611686018427387904 < now) = true := decide_eq_true h2
      clear h2
      go_wp2_with fail
      go_quiet (fail)
      go_wp2_with fail
      go_ret
      exact ⟨rfl, below_drewN (below_drewN HV.out.2.1 _) _⟩
    · have z2 : decide (4611686018427387904 < now) = false := decide_eq_false h2
      clear h2
      cases cl with
      | true =>
        go_wp2_with fail
        go_quiet (fail)
        go_wp2_with fail
        go_ret
        exact ⟨rfl, below_drewN (below_drewN HV.out.2.1 _) _⟩
      | false =>
        by_cases h3 : st < 0
        · have z3 : decide (st < 0) = true := decide_eq_true h3
          clear h3
          go_wp2_with fail
          go_quiet (fail)
          go_wp2_with fail
          go_ret
          exact ⟨rfl, below_drewN (below_drewN HV.out.2.1 _) _⟩
        · by_cases h4 : 255 ≤ st
          · have z3 : decide (st < 0) = false := decide_eq_false h3
            have z4 : decide (255 ≤ st) = true := decide_eq_true h4
            clear h3 h4
            go_wp2_with fail
            go_quiet (fail)
            go_wp2_with fail
            go_ret
            exact ⟨rfl, below_drewN (below_drewN HV.out.2.1 _) _⟩
          · exfalso
            have e1 := of_decide_eq_false z1
            have e2 := of_decide_eq_false z2
            have e3 := of_decide_eq_false hcl2.out
            rcases HB.out with h | h | h | h | h
            · exact e1 h
            · exact e2 h
            · exact e3 h
            · exact h3 (by rw [HST.out]; exact h)
            · exact h4 (by rw [HST.out]; exact h)
end Go.Proofs.Ytmjmoihggojpiaa
