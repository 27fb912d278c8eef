/- The walk of the law's 'made': a table of the program's out of the document's. -/
import Derived.Test.YtmjmoihggojpiaaDoorNewWalkC
set_option linter.unusedSimpArgs false
set_option linter.unusedVariables false
namespace Go.Proofs.YtmjmoihggojpiaaDoor
open Go.RowKit Civ
attribute [local go_sem] isSome_setCell

theorem leapCells_append (a b : List (Int × Int)) : leapCells (a ++ b) = leapCells a ++ leapCells b := by
  induction a with
  | nil => rfl
  | cons x l ih => simp [leapCells, ih]
theorem leapCells_take (L : List (Int × Int)) (k : Nat) (h : k < L.length) : leapCells (L.take (k + 1)) = leapCells (L.take k) ++ [.int .i64 (L.getD k (0, 0)).1, .int .i64 (L.getD k (0, 0)).2] := by
  rw [List.take_succ_eq_append_getElem h, leapCells_append, List.getD_eq_getElem?_getD, List.getElem?_eq_getElem h]
  rfl
theorem two_news {w : World} {g : Nat} {u v : Value} (h0 : w.cell? ⟨g, 0, none⟩ = some u) (h1 : w.cell? ⟨g, 1, none⟩ = some v) : ∀ (j : Nat) (x : Value), [u, v][j]? = some x → w.cell? ((⟨g, 0, none⟩ : Addr).add j) = some x := fun j x hx => by
  rcases j with _ | _ | j
  · simp at hx; subst hx; exact h0
  · simp at hx; subst hx; exact h1
  · simp at hx

/-- The leaps in memory, as the document's table has them. -/
def LeapsAt (w : World) (la : Option Addr) (L : List (Int × Int)) : Prop :=
  L = [] ∨ ∃ b off, la = some ⟨b, off, none⟩ ∧ (∀ j, j < L.length → w.cell? ⟨b, off + j * 2, none⟩ = some (.int .i64 (L.getD j (0, 0)).1)) ∧ (∀ j, j < L.length → w.cell? ⟨b, off + j * 2 + 1, none⟩ = some (.int .i64 (L.getD j (0, 0)).2))

def MadeAt (w wr : World) (v : Value) (L : List (Int × Int)) (k : Nat) : Prop :=
  wr.ownsRow (w.heap.size + 1) 56 2 v k (leapCells (L.take k)) ∧ Below w.heap.size w wr

/-- What comes of it. -/
def MadeOut (w : World) (first : Int) (L : List (Int × Int)) (e : Ending) (w' : World) : Prop :=
  Below w.heap.size w w' ∧ ((e = .returned (.tuple #[.pointer none, .bool false])) ∨
    (∃ tb, e = .returned (.tuple #[.pointer (some ⟨tb, 0, none⟩), .bool true]) ∧ TabAt w' tb L first ∧ (∀ k, k < L.length → rightAt L k = true) ∧ 0 ≤ first ∧ first ≤ 30000 ∧ L.length ≤ 64))

set_option maxHeartbeats 4000000 in
theorem made_some (first : Int) (L : List (Int × Int)) (b off c : Nat) (w : World) (hreach : L.length * 16 ≤ 140737488351232) (hL : 0 < L.length)
    (d1 : ∀ j, j < L.length → w.cell? ⟨b, off + j * 2, none⟩ = some (.int .i64 (L.getD j (0, 0)).1)) (d2 : ∀ j, j < L.length → w.cell? ⟨b, off + j * 2 + 1, none⟩ = some (.int .i64 (L.getD j (0, 0)).2)) :
    Calls Tryd.prog 11 #[.agg #[.int .i64 first, .slice (some ⟨b, off, none⟩) L.length c]] w fun e w' => MadeOut w first L e w' := by
  have HD1 := Lib.hid d1
  have HD2 := Lib.hid d2
  have lb : b < w.heap.size := World.block_lt_of_cell? w _ (d1 0 hL)
  clear d1 d2
  go_enter Tryd.func11, Tryd.ntmps11
  go_wp2_with fail
  obtain ⟨W0, hW0⟩ : ∃ W0, W0 = w.alloc (.cells #[.int .i64 first, .slice (some ⟨b, off, none⟩) L.length c] 44) := ⟨_, rfl⟩
  have c0 : W0.cell? ⟨w.heap.size, 0, none⟩ = some (.int .i64 first) := by rw [hW0]; go_simp
  have z0 : w.heap.size < W0.heap.size := by rw [hW0]; simp
  have HB0 : Hid (Below w.heap.size w W0) := by rw [hW0]; exact (Below.refl _ _).alloc (Nat.le_refl _) _
  rw [← hW0]
  clear hW0
  go_loopw [4, 12] (fun v i wr => ∃ k : Nat, k ≤ L.length ∧ i = .int .i64 k ∧ Hid (MadeAt w wr v L k) ∧ w.heap.size < wr.heap.size ∧ wr.cell? ⟨w.heap.size, 0, none⟩ = some (.int .i64 first)) (fun _ i _ => L.length - (intOf i).toNat)
  case atStart => exact ⟨0, Nat.zero_le _, rfl, ⟨World.ownsRow_nil _ _ _ _, HB0.out⟩, z0, c0⟩
  case round =>
    obtain ⟨k, hk, rfl, hm, hz, hc⟩ := hrel
    by_cases hlt : k < L.length
    · have e1 := (hm.out.2.cell (p := ⟨b, off + k * 2, none⟩) lb).trans (HD1.out k hlt)
      have e2 := (hm.out.2.cell (p := ⟨b, off + k * 2 + 1, none⟩) lb).trans (HD2.out k hlt)
      have lbr : b < wr.heap.size := by omega
      have HT := Lib.hid (leapCells_take L k hlt)
      obtain ⟨⟨x, s⟩, hx⟩ : ∃ x, x = L.getD k (0, 0) := ⟨_, rfl⟩
      rw [← hx] at e1 e2 HT
      clear hx
      obtain ⟨i0, hi0, hq0, hq1, hq2⟩ := info_parts infoLeap
      have hB : w.heap.size ≤ wr.heap.size := by omega
      have HM1 := Lib.hid hm.out.1
      go_wp2_with (at_builtin; refine wpList_append_lies _ rfl _ _ 57 rfl (w.heap.size + 1) 56 i0 _ 2 16 Tryd.underlying57 hi0 hq0 hq1 hq2 rfl (by omega) _ k (leapCells (L.take k)) rfl ((HM1.out.alloc _).alloc _) ⟨wr.heap.size + 1, 0, none⟩ 1 1 [.int .i64 x, .int .i64 s] rfl rfl (two_news (by go_simp) (by go_simp)) (by simp [Value.oneCell']) (by omega) (by unfold maxLen; omega) (by omega) (by simp; omega) _ rfl ?_; intro g1 cap1 wA hown hgrow hat hlt1)
      have hne : some w.heap.size ≠ u4.ownBlock := fun e => by
        have := (HM1.out.lt _ e.symm).1
        omega
      have hA : Hid (MadeAt w wA (.slice (some ⟨g1, 0, none⟩) (k + 1) cap1) L (k + 1)) := by
        refine ⟨by rw [HT.out]; exact hown, ?_⟩
        exact ((hm.out.2.alloc hB _).alloc (by simp; omega) _).grown hgrow (by simp; omega) (fun j e => by have := (HM1.out.lt _ e).1; omega)
      have hcA : wA.cell? ⟨w.heap.size, 0, none⟩ = some (.int .i64 first) := by
        rw [hgrow.cell_far _ (by simp; omega) hne]; go_simp
      have hzA : w.heap.size < wA.heap.size := by have := hgrow.size; simp at this; omega
      exact ⟨⟨k + 1, by omega, by go_num, hA, hzA, hcA⟩, by simp [intOf]; omega⟩
    · obtain rfl : k = L.length := by omega
      obtain ⟨g, cap, rfl, hg1, hg2⟩ := hm.out.1.form hL
      have HBW := Lib.hid hm.out.2
      have hB : w.heap.size ≤ wr.heap.size := by omega
      have rd : ∀ j u, (leapCells L)[j]? = some u → wr.cell? ⟨g, j, none⟩ = some u := fun j u hu => by
        have hh := hm.out.1.cellAt j (by rw [← leapCells_len]; exact (List.getElem?_eq_some_iff.1 hu).1)
        rw [hh, List.take_of_length_le (Nat.le_refl _)]; exact hu
      have HR1 := Lib.hid (fun j (hj : j < L.length) => rd _ _ (leapCells_fst L j hj))
      have HR2 := Lib.hid (fun j (hj : j < L.length) => rd _ _ (leapCells_snd L j hj))
      clear rd hm
      by_cases hbad : first < 0 ∨ 30000 < first ∨ 64 < L.length
      · go_wp2_with fail
        refine (new_bad first _ L.length _ _ (by omega) hbad).mono ?_
        rintro e w2 ⟨rfl, rfl⟩
        go_wp2_with fail
        go_ret2
        exact ⟨HBW.out, .inl rfl⟩
      · go_wp2_with fail
        refine (new_t first L _ g _ _ (by omega) (by omega) (by omega) rfl HR1.out HR2.out).mono ?_
        rintro e w2 (⟨hr, tb, rfl, ht, hb⟩ | ⟨hr, rfl, hb⟩)
        · have HT := Lib.hid ht
          have HRR := Lib.hid hr
          have HB2 := Lib.hid (HBW.out.trans (hb.mono hB))
          clear ht hr hb
          go_wp2_with fail
          go_ret2
          exact ⟨HB2.out, .inr ⟨tb, rfl, HT.out, HRR.out, by omega, by omega, by omega⟩⟩
        · have HB2 := Lib.hid (HBW.out.trans (hb.mono hB))
          clear hr hb
          go_wp2_with fail
          go_ret2
          exact ⟨HB2.out, .inl rfl⟩

theorem made_none (first : Int) (la : Option Addr) (c : Nat) (w : World) :
    Calls Tryd.prog 11 #[.agg #[.int .i64 first, .slice la 0 c]] w fun e w' => MadeOut w first [] e w' := by
  go_enter Tryd.func11, Tryd.ntmps11
  go_wp2_with fail
  obtain ⟨W, hW⟩ : ∃ W, W = w.alloc (.cells #[.int .i64 first, .slice la 0 c] 44) := ⟨_, rfl⟩
  have c0 : W.cell? ⟨w.heap.size, 0, none⟩ = some (.int .i64 first) := by rw [hW]; go_simp
  have HB0 : Hid (Below w.heap.size w W) := by rw [hW]; exact (Below.refl _ _).alloc (Nat.le_refl _) _
  have hB : w.heap.size ≤ W.heap.size := HB0.out.size
  rw [← hW]
  clear hW
  go_loopw [4, 12] (fun v i wr => v = .slice none 0 0 ∧ i = .int .i64 0 ∧ wr = W) (fun _ _ _ => 0)
  case atStart => exact ⟨rfl, rfl, rfl⟩
  case round =>
    obtain ⟨rfl, rfl, rfl⟩ := hrel
    by_cases hbad : first < 0 ∨ 30000 < first ∨ 64 < 0
    · go_wp2_with fail
      refine (new_bad first _ 0 _ _ (by omega) hbad).mono ?_
      rintro e w2 ⟨rfl, rfl⟩
      go_wp2_with fail
      go_ret2
      exact ⟨HB0.out, .inl rfl⟩
    · go_wp2_with fail
      refine (new_nil first _ (by omega) (by omega)).mono ?_
      rintro e w2 ⟨tb, rfl, ht, hb⟩
      have HT := Lib.hid ht
      have HB2 := Lib.hid (HB0.out.trans (hb.mono hB))
      clear ht hb
      go_wp2_with fail
      go_ret2
      exact ⟨HB2.out, .inr ⟨tb, rfl, HT.out, fun k h => by simp at h, by omega, by omega, by simp⟩⟩
end Go.Proofs.YtmjmoihggojpiaaDoor
