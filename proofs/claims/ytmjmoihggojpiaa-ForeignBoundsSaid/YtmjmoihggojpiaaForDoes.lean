/- The walks of does, far. -/
import Derived.Test.YtmjmoihggojpiaaForAlive
set_option linter.unusedSimpArgs false
set_option linter.unusedVariables false
namespace Go.Proofs.Ytmjmoihggojpiaa
open Go Go.Maps Go.RowKit Go.Shelf Go.Sort Go.Lib

/-- A call of a script. -/
structure Op8 where
  kind : Int
  now : Int
  s : St
  deriving Inhabited
def encO (o : Op8) : List Value := [.int .i64 o.kind, .int .i64 o.now] ++ encS o.s
theorem encO_len (o : Op8) : (encO o).length = 34 := rfl
theorem encO_set (o : Op8) (j : Nat) (v : Value) (h : (encS o.s)[j]? = some v) : (encO o)[2 + j]? = some v := by
  unfold encO
  rw [List.getElem?_append_right (by simp)]
  simpa using h

def doesL (own : List Int) (win : Int) (L : List En) (o : Op8) : List En × Int :=
  if o.kind = 0 then hear own win L o.s o.now
  else if o.kind = 1 then (L.filter fun e => decide (keyE e ≠ o.s.sender), if o.s.sender ∈ L.map keyE then 1 else 0)
  else if o.kind = 2 then ([], 0) else (L, 0)

theorem far_t (x : Int) (w : World) : Calls Try.prog 15 #[.int .i64 x] w fun r w' => r = .returned (.bool (decide (x < -4611686018427387904 ∨ 4611686018427387904 < x))) ∧ w = w' := by
  by_cases h1 : x < -4611686018427387904
  · have z1 : decide (x < -4611686018427387904) = true := decide_eq_true h1
    rw [decide_eq_true (.inl h1 : x < -4611686018427387904 ∨ 4611686018427387904 < x)]
    clear h1
    go_enter Try.func15, Try.ntmps15
    go_wp2_with fail
    go_ret
    exact ⟨rfl, rfl⟩
  · have z1 : decide (x < -4611686018427387904) = false := decide_eq_false h1
    by_cases h2 : 4611686018427387904 < x
    · have z2 : decide (4611686018427387904 < x) = true := decide_eq_true h2
      rw [decide_eq_true (.inr h2 : x < -4611686018427387904 ∨ 4611686018427387904 < x)]
      clear h1 h2
      go_enter Try.func15, Try.ntmps15
      go_wp2_with fail
      go_ret
      exact ⟨rfl, rfl⟩
    · have z2 : decide (4611686018427387904 < x) = false := decide_eq_false h2
      rw [decide_eq_false (by omega : ¬ (x < -4611686018427387904 ∨ 4611686018427387904 < x))]
      clear h1 h2
      go_enter Try.func15, Try.ntmps15
      go_wp2_with fail
      go_ret
      exact ⟨rfl, rfl⟩

set_option maxRecDepth 100000 in
set_option maxHeartbeats 4000000 in
theorem does_l {base : Nat} {X : List Nat} {w : World} {T : Nat} {own : List Int} {win : Int} {L : List En} (h : TabL base X w T own win L) (o : Op8) (hp : o.s.sender.ok) :
    Calls Try.prog 14 #[.pointer (some ⟨T, 0, none⟩), .agg (encO o).toArray] w fun r w' =>
      r = .returned (.int .i64 (doesL own win L o).2) ∧ TabL base X w' T own win (doesL own win L o).1 ∧ Kept base X w w' := by
  obtain ⟨V, hV⟩ : ∃ V, V = w.alloc (.cells (encO o).toArray 45) := ⟨_, rfl⟩
  have hBV : Below w.heap.size w V := by rw [hV]; exact (Below.refl _ w).alloc (Nat.le_refl _) _
  have HT : Hid (TabL base X V T own win L) := h.later hBV
  have HK : Hid (Kept base X w V) := by
    refine ⟨hBV.mono (Nat.le_of_lt h.lt), fun x hx => ?_, hBV.size⟩
    obtain ⟨mb, l, _, _, _, hlt⟩ := h
    exact hBV.block x (hlt x hx)
  have hbx : Blk V w.heap.size 45 (encO o) := by rw [hV]; exact Blk.new w _ _
  have ck : V.cell? ⟨w.heap.size, 0, none⟩ = some (.int .i64 o.kind) := (hbx.cell 0).trans rfl
  have cn : V.cell? ⟨w.heap.size, 1, none⟩ = some (.int .i64 o.now) := (hbx.cell 1).trans rfl
  have HR : Hid (V.rangeAt w.heap.size 2 (encS o.s)) := hbx.range 2 _ (encO_set o)
  obtain ⟨x0, x1, x2, x3, x4, x5, x6, x7, x8⟩ := nineAt (hbx.range 16 (encP o.s.sender) (fun j v hv => by rw [show 16 + j = 2 + (14 + j) by omega]; exact encO_set o _ _ (encS_sender o.s j v hv)))
  simp only [Nat.reduceAdd] at x1 x2 x3 x4 x5 x6 x7 x8
  have HV := Lib.hid hV
  have HP := Lib.hid hp
  clear h hV hBV hbx hp
  unfold doesL
  have g0 : (encO o)[0]? = some (.int .i64 o.kind) := rfl
  have g1 : (encO o)[1]? = some (.int .i64 o.now) := rfl
  have g16 : (encO o)[16]? = some (.int .u8 o.s.sender.a0) := rfl
  have g17 : (encO o)[17]? = some (.int .u8 o.s.sender.a1) := rfl
  have g18 : (encO o)[18]? = some (.int .u8 o.s.sender.a2) := rfl
  have g19 : (encO o)[19]? = some (.int .u8 o.s.sender.a3) := rfl
  have g20 : (encO o)[20]? = some (.int .u8 o.s.sender.a4) := rfl
  have g21 : (encO o)[21]? = some (.int .u8 o.s.sender.a5) := rfl
  have g22 : (encO o)[22]? = some (.int .u8 o.s.sender.a6) := rfl
  have g23 : (encO o)[23]? = some (.int .u8 o.s.sender.a7) := rfl
  have g24 : (encO o)[24]? = some (.int .i64 o.s.sender.n) := rfl
  clear ck cn x0 x1 x2 x3 x4 x5 x6 x7 x8
  have HDrop := Lib.hid (drop_l HT.out o.s.sender HP.out)
  have HHear := Lib.hid (hear_l HT.out o.s HP.out o.now)
  have HClear := Lib.hid (clear_l HT.out)
  rw [HV.out] at HDrop HHear HClear
  by_cases h0 : o.kind = 0
  · rw [if_pos h0]
    rw [h0] at g0
    clear h0
    go_enter Try.func14, Try.ntmps14
    go_wp2_with (first
      | ((with_reducible refine wpList_load_mid ?_ 31 (.tmp 10) ?_ w.heap.size 2 ?_ (encS o.s) _ ?_ Try.underlying31 ?_ ?_ ?_); rfl; rfl; rfl; (rw [← HV.out]; exact HR.out); rfl; kernel_rfl)
      | (go_at_call 11; refine HHear.out.mono ?_; rintro e W ⟨rfl, hT, hK⟩))
    go_ret
    exact ⟨rfl, hT, HK.out.trans (by rw [HV.out]; exact hK)⟩
  · rw [if_neg h0]
    have z0 : ¬ o.kind = 0 := h0
    by_cases h1 : o.kind = 1
    · rw [if_pos h1]
      rw [h1] at g0
      clear h1 h0 z0
      by_cases hm : o.s.sender ∈ L.map keyE
      · rw [if_pos hm]
        rw [decide_eq_true hm] at HDrop
        clear hm
        go_enter Try.func14, Try.ntmps14
        go_wp2_with (go_at_call 25; refine HDrop.out.mono ?_; rintro e W ⟨rfl, hT, hK⟩)
        go_ret
        exact ⟨rfl, hT, HK.out.trans (by rw [HV.out]; exact hK)⟩
      · rw [if_neg hm]
        rw [decide_eq_false hm] at HDrop
        clear hm
        go_enter Try.func14, Try.ntmps14
        go_wp2_with (go_at_call 25; refine HDrop.out.mono ?_; rintro e W ⟨rfl, hT, hK⟩)
        go_ret
        exact ⟨rfl, hT, HK.out.trans (by rw [HV.out]; exact hK)⟩
    · rw [if_neg h1]
      by_cases h2 : o.kind = 2
      · rw [if_pos h2]
        rw [h2] at g0
        clear h0 h1 h2 z0
        go_enter Try.func14, Try.ntmps14
        go_wp2_with (go_at_call 26; refine HClear.out.mono ?_; rintro e W ⟨rfl, hT, hK⟩)
        go_ret
        exact ⟨rfl, hT, HK.out.trans (by rw [HV.out]; exact hK)⟩
      · rw [if_neg h2]
        generalize o.kind = kd at *
        go_enter Try.func14, Try.ntmps14
        go_wp2_with fail
        go_ret
        exact ⟨rfl, by rw [← HV.out]; exact HT.out, by rw [← HV.out]; exact HK.out⟩
end Go.Proofs.Ytmjmoihggojpiaa
