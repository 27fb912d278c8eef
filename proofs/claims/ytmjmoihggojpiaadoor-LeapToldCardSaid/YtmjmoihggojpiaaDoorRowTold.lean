/- For every table of leaps and every two times of one day: what a clock says by what was said at the first (or, where noon lies between, at the second) is the table's own label, and so are the labels of the second as a span. The row lists three tables of Go's library as they start; its card ties them to the program's text. -/
import Derived.Test.YtmjmoihggojpiaaDoorRowBy
import Derived.Test.YtmjmoihggojpiaaDoorLawWalkC
import Derived.Deep.SlicePairs
import Derived.SizedLaws
set_option linter.unusedSimpArgs false
set_option linter.unusedVariables false
namespace Go.Proofs.YtmjmoihggojpiaaDoor
open Go.ChangeShapes Go.WideShapes Go.ChangeAt Go.WideMaps Go.WideElems Go.RowKit Civ

def numOf : Value → Int
  | .int _ n => n
  | _ => 0

theorem made_any (first : Int) (L : List (Int × Int)) (la : Option Addr) (c : Nat) (w : World) (hreach : L.length * 16 ≤ 140737488351232) (hl : LeapsAt w la L) :
    Hid (∀ W, Below w.heap.size w W → Calls Tryd.prog 11 #[.agg #[.int .i64 first, .slice la L.length c]] W fun e w' => MadeOut W first L e w') := fun W hb => by
  rcases hl with rfl | ⟨b, off, rfl, d1, d2⟩
  · exact made_none first la c W
  · rcases Nat.eq_zero_or_pos L.length with h0 | h0
    · have : L = [] := List.eq_nil_of_length_eq_zero h0
      subst this
      exact made_none first _ c W
    · exact made_some first L b off c W hreach h0 (fun j hj => (hb.cell (World.block_lt_of_cell? w _ (d1 j hj))).trans (d1 j hj)) (fun j hj => (hb.cell (World.block_lt_of_cell? w _ (d2 j hj))).trans (d2 j hj))

set_option maxRecDepth 100000 in
theorem liftedTold (os : Os) (started : os.Started) (H : Type) (enc : TypeId × Value → H) :
    ReturnsInHanded {} Tryd.checked os 4 .any (fun w args => (Rows.leapToldSpec.pre enc Tryd.prog Tryd.f4 [] false w args ∧ laidMetH Tryd.prog tabs w) ∧ sizedMet enc Tryd.prog Tryd.f4 (OpenSpec.ofChange Rows.leapToldSpec) false w args)
      (Rows.leapToldSpec.post enc Tryd.prog Tryd.f4 false true false false) := by
  refine returnsInHanded_of_change_and (C := Tryd.checked) (X := fun w _ => laidMetH Tryd.prog tabs w) (fun _ _ _ hh h => h.of_heap hh) ownKn started (by kernel_rfl) Tryd.func4
    (ChangeSpec.witness_shaped (enc := enc) (C := Tryd.checked) (os := os) (X := fun w _ => laidMetH Tryd.prog tabs w) false (World.doorLaid Tryd.prog 400 os) #[.agg #[.int .i64 0, .slice none 0 0], .int .i64 0, .int .i64 0] 8 rfl (World.shaped_of_RefB (by kernel_rfl) (by kernel_rfl)) (by kernel_rfl) (by kernel_rfl) (by kernel_rfl) (door_met os _)) ?_
  intro W base args ds gs before hval0 hW _ hsz hL _
  have hval : ∀ (j : Nat) t v, Tryd.f4.params[j]? = some t → args[j]? = some v → Value.okWide Tryd.prog W .any base t v := hval0
  have hW' := hW
  obtain ⟨p, q, hA0, hV, rfl, hfz, hnd⟩ := hW
  have hA : DataW.TrodAll enc Tryd.prog W 0 (fun _ => true) true Tryd.f4.params.toList args.toList ds p := hA0
  rw [Tryd.params4] at hA hval
  obtain ⟨v0, v1, v2, d0, d1, d2, p0, p1, p2, rfl, rfl, rfl, h0, h1, h2⟩ := trodAll_three hA
  obtain ⟨rfl, rfl⟩ := trodVars_none hV
  obtain ⟨n0, n1, y0, y1, fn, rfl, rfl, -, t0, t1⟩ := Joins.open_agg2 Tryd.underlying44 (by kernel_rfl) (by kernel_rfl) (hval 0 _ v0 rfl rfl) h0
  obtain ⟨first, e0, -, -⟩ := DataW.trod_int Tryd.underlying3 t0
  obtain ⟨tai, rfl, -, -, -⟩ := open_int Tryd.underlying3 (hval 1 _ v1 rfl rfl) h1
  obtain ⟨more, rfl, -, -, -⟩ := open_int Tryd.underlying3 (hval 2 _ v2 rfl rfl) h2
  simp only [List.cons.injEq, and_true] at e0
  subst e0
  have key : ∃ (L : List (Int × Int)) (la : Option Addr) (c : Nat), n1 = .slice la L.length c ∧ LeapsAt W la L ∧ L.length * 16 ≤ 140737488351232 := by
    rcases Deep.open_slice_pairs Tryd.underlying42 Tryd.underlying64 (by kernel_rfl) rfl rfl (by kernel_rfl) (by kernel_rfl) t1 with ⟨e1, -⟩ | ⟨a, len, cap, m, n, V0, V1, D0, D1, P0, P1, e1, -, hlc, hcm, hm, hx, hc⟩
    · simp only [List.cons.injEq, and_true] at e1
      subst e1
      exact ⟨[], none, 0, rfl, .inl rfl, by simp⟩
    · simp only [List.cons.injEq, and_true] at e1
      subst e1
      have hlm : len ≤ m := by rw [hm]; split <;> omega
      refine ⟨(List.range len).map fun i => (numOf (V0 i), numOf (V1 i)), some a, cap, by simp, ?_, ?_⟩
      · rcases Nat.eq_zero_or_pos len with hz | hz
        · left; subst hz; rfl
        · right
          obtain ⟨c0, _⟩ := hc 0 (by omega)
          obtain ⟨b, off, spot⟩ := a
          have hs : spot = none := by
            cases spot with
            | none => rfl
            | some x =>
              exfalso
              simp only [Nat.zero_mul, Addr.add, if_true, World.cell?] at c0
              split at c0 <;> simp at c0
          subst hs
          have hadd : ∀ i, (⟨b, off, none⟩ : Addr).add i = ⟨b, off + i, none⟩ := fun i => by
            unfold Addr.add; split
            · subst_vars; rfl
            · rfl
          have hg : ∀ j, j < len → ((List.range len).map fun i => (numOf (V0 i), numOf (V1 i))).getD j (0, 0) = (numOf (V0 j), numOf (V1 j)) := fun j hj => by
            rw [List.getD_eq_getElem?_getD, List.getElem?_map, List.getElem?_range hj]; rfl
          refine ⟨b, off, rfl, fun j hj => ?_, fun j hj => ?_⟩
          · have hj' : j < len := by simpa using hj
            obtain ⟨k0, k1, r0, r1⟩ := hc j (by omega)
            obtain ⟨x, ex, -, -⟩ := DataW.trod_int Tryd.underlying3 r0
            simp only [List.cons.injEq, and_true] at ex
            rw [hg j hj', ← hadd, k0, ex]; rfl
          · have hj' : j < len := by simpa using hj
            obtain ⟨k0, k1, r0, r1⟩ := hc j (by omega)
            obtain ⟨x, ex, -, -⟩ := DataW.trod_int Tryd.underlying3 r1
            simp only [List.cons.injEq, and_true] at ex
            rw [hg j hj', Nat.add_assoc, ← hadd, k1, ex]; rfl
      · have hw := List.all_eq_true.1 hsz ((len + (m - len)) * Tryd.prog.bytesOf 64) (DataW.weights_mem_each (j := 0) (t := 44) rfl rfl _ (by
          rw [hx]
          show _ ∈ DataW.weights Tryd.prog _ _
          simp [DataW.weights, DataW.weightsEach, Tryd.underlying44, Tryd.underlying42]))
        have hb : Tryd.prog.bytesOf 64 = 16 := by kernel_rfl
        rw [hb] at hw
        have : (len + (m - len)) * 16 ≤ reachBytes := by simpa using hw
        unfold reachBytes at this
        simp
        omega
  obtain ⟨L, la, c, rfl, hla, hreach⟩ := key
  refine (lawTold_t first L la c tai more W (tab_of_laid hL) (made_any first L la c W hreach hla)).mono fun e W' ⟨he, hb⟩ => ?_
  subst he
  exact ⟨_, rfl, law_post laidOut Tryd.underlying4 rfl (by kernel_rfl) rfl rfl hW' hb⟩

theorem leapTold_row : Rows.LeapToldSaid :=
  OpenClaim.holds_of_wide 4 Tryd.f4 rfl rfl rfl rfl rfl rfl rfl ⟨rfl, rfl, rfl, rfl, rfl⟩ rfl rfl rfl rfl rfl (by kernel_rfl) Tryd.func4 (by kernel_rfl)
    (of_decide_eq_true (by kernel_rfl)) (by unfold Func.isWrapper; first | (rw [if_pos (by decide +kernel)]; kernel_rfl) | (rw [if_neg (by decide +kernel)]; exact ⟨rfl, rfl⟩))
    (fun os started H enc _ => liftedTold os started H enc)
#print axioms leapTold_row
end Go.Proofs.YtmjmoihggojpiaaDoor
