/- The walk of (*Table).Hear, where its sender is there. -/
import Derived.Test.YtmjmoihggojpiaaForHear
set_option linter.unusedSimpArgs false
set_option linter.unusedVariables false
namespace Go.Proofs.Ytmjmoihggojpiaa
open Go Go.Maps Go.RowKit Go.Shelf Go.Sort Go.Lib

set_option maxRecDepth 100000 in
set_option maxHeartbeats 4000000 in
theorem hear_in {base : Nat} {w : World} {T : Nat} {own : List Int} {win : Int} {mb : Nat} {l : List (En × Nat)} (h : TabAt base w T own win mb l) (s : St) (hp : s.sender.ok) (now : Int) (hbad : bad own s now = false) (x : En × Nat) (hx : x ∈ l) (hxk : keyX x = s.sender) :
    Calls Try.prog 11 #[.pointer (some ⟨T, 0, none⟩), .agg (encS s).toArray, .int .i64 now] w fun r w' =>
      (now < x.1.t0 ∧ r = .returned (.int .i64 0) ∧ Below w.heap.size w w') ∨ (x.1.t0 ≤ now ∧ r = .returned (.int .i64 1) ∧ EntAt w' x.2 ⟨s, now, x.1.t0, min (x.1.many + 1) 2⟩ ∧ But [x.2] w w') := by
  obtain ⟨V, hV⟩ : ∃ V, V = w.alloc (.cells (encS s).toArray 31) := ⟨_, rfl⟩
  have hBV : Below w.heap.size w V := by rw [hV]; exact (Below.refl _ w).alloc (Nat.le_refl _) _
  have hTV := h.below hBV (Nat.le_refl _)
  have hbx : Blk V w.heap.size 31 (encS s) := by rw [hV]; exact Blk.new w _ _
  obtain ⟨x0, x1, x2, x3, x4, x5, x6, x7, x8⟩ := nineAt (hbx.range 14 (encP s.sender) (encS_sender s))
  simp only [Nat.reduceAdd] at x1 x2 x3 x4 x5 x6 x7 x8
  have xs : V.cell? ⟨w.heap.size, 13, none⟩ = some (.int .i64 s.steps) := (hbx.cell 13).trans (encS_steps s)
  have c9 := hTV.cmap
  have look : ∀ n, (Instr.lookup 61 (.map (some mb)) (.agg (encP s.sender).toArray) true).run Try.prog (V.drewN n) = .ok (.tuple #[.pointer (some ⟨x.2, 0, none⟩), .bool true]) (V.drewN n) := fun n => by rw [← hxk]; exact (hTV.drewN n).look hx
  have HEX := Lib.hid (hTV.ents x hx)
  have hmx := h.many x hx
  have hMX : Hid (0 ≤ x.1.many ∧ x.1.many ≤ 2) := ⟨by omega, hmx.2⟩
  have hgx : w.heap.size ≠ x.2 := by have := Blk.lt (h.ents x hx); omega
  have hl := h.len
  have hby := h.bytes
  obtain ⟨o0, o1, o2, o3, o4, o5, o6, o7, rfl⟩ := len8 hl
  obtain ⟨y0, y1, y2, y3, y4, y5, y6, y7⟩ := eight_of hTV.rown
  simp only [Nat.reduceAdd] at y1 y2 y3 y4 y5 y6 y7
  have HV := Lib.hid (And.intro hV (And.intro hBV hTV))
  have heq : ∀ v : World, (binOp .eql 23 (.agg #[.int .u8 s.sender.a0, .int .u8 s.sender.a1, .int .u8 s.sender.a2, .int .u8 s.sender.a3, .int .u8 s.sender.a4, .int .u8 s.sender.a5, .int .u8 s.sender.a6, .int .u8 s.sender.a7]) (.agg #[.int .u8 o0, .int .u8 o1, .int .u8 o2, .int .u8 o3, .int .u8 o4, .int .u8 o5, .int .u8 o6, .int .u8 o7])).run Try.prog v = .ok (.bool (decide (s.sender.clock = [o0, o1, o2, o3, o4, o5, o6, o7]))) v := fun v => (eql_clock s.sender ⟨o0, o1, o2, o3, o4, o5, o6, o7, 0⟩ hp.1 hby v).1
  generalize hcl : decide (s.sender.clock = [o0, o1, o2, o3, o4, o5, o6, o7]) = cl at heq
  have HBX := Lib.hid hbx
  clear h hV hBV hTV hbx hl hby hp hx hxk hmx
  unfold bad at hbad
  rw [decide_eq_false_iff_not] at hbad
  simp only [not_or] at hbad
  obtain ⟨n1, n2, n3, n4, n5⟩ := hbad
  have z1 : decide (now < 0) = false := decide_eq_false n1
  have z2 : decide (4611686018427387904 < now) = false := decide_eq_false n2
  rw [decide_eq_false n3] at hcl
  subst hcl
  have z3 : decide (s.steps < 0) = false := decide_eq_false n4
  have z4 : decide (255 ≤ s.steps) = false := decide_eq_false n5
  clear n1 n2 n3 n4 n5
  generalize s.sender = p at x0 x1 x2 x3 x4 x5 x6 x7 x8 look heq
  obtain ⟨st, hst⟩ : ∃ st, st = s.steps := ⟨_, rfl⟩
  rw [← hst] at xs z3 z4
  have HST := Lib.hid hst
  clear hst
  go_enter Try.func11, Try.ntmps11
  go_wp2_with fail
  rw [← HV.out.1]
  go_quiet (fail)
  by_cases hlt : now < x.1.t0
  · have z5 : decide (now < x.1.t0) = true := decide_eq_true hlt
    have HL := Lib.hid hlt
    clear hlt
    go_wp2_with fail
    go_quiet ((go_at_call 21; first | exact quiet_left (last_t _ x.2 x.1 HEX.out) | exact quiet_add_left (last_t _ x.2 x.1 HEX.out)))
    go_wp2_with fail
    go_ret
    exact .inl ⟨HL.out, rfl, below_drewN (below_drewN HV.out.2.1 _) _⟩
  · have z5 : decide (now < x.1.t0) = false := decide_eq_false hlt
    have HL := Lib.hid hlt
    clear hlt
    go_wp2_with fail
    go_quiet ((go_at_call 21; first | exact quiet_left (last_t _ x.2 x.1 HEX.out) | exact quiet_add_left (last_t _ x.2 x.1 HEX.out)))
    generalize hU : World.drewN (World.drewN V _) _ = U
    have HBU : Hid (Blk U w.heap.size 31 (encS s)) := by rw [← hU]; exact HBX.out
    have HEU : Hid (EntAt U x.2 x.1) := by rw [← hU]; exact HEX.out
    have HWU : Hid (But [x.2] w U) := by rw [← hU]; exact ((But.of_below HV.out.2.1).drewN _).drewN _
    clear hU x0 x1 x2 x3 x4 x5 x6 x7 x8 xs c9 look heq y0 y1 y2 y3 y4 y5 y6 y7 z1 z2 z3 z4 z5
    go_wp2_with (first
      | (refine wpList_load_mid (by rfl) 31 (.tmp 4) (by rfl) w.heap.size 0 (by rfl) (encS s) _ HBU.out.all Try.underlying31 rfl (by kernel_rfl) ?_)
      | (go_at_call 22; refine (heard_t U x.2 x.1 s now HEU.out hMX.out).mono ?_; rintro e W ⟨rfl, hEW, hBW⟩))
    go_ret
    exact .inr ⟨by have := HL.out; omega, rfl, hEW, HWU.out.trans' hBW⟩
end Go.Proofs.Ytmjmoihggojpiaa
