/- The walks of a table's Offset and Label. -/
import Derived.Test.YtmjmoihggojpiaaDoorTabWalkB
import Derived.Test.YtmjmoihggojpiaaDoorWorldAid
set_option linter.unusedSimpArgs false
set_option linter.unusedVariables false
namespace Go.Proofs.YtmjmoihggojpiaaDoor
open Go.RowKit Civ
attribute [local go_sem] isSome_setCell

/-- A table in memory: its leaps, its offsets, its starts, as they are read. -/
structure TabAt (w : World) (tb : Nat) (L : List (Int × Int)) (o : Int) : Prop where
  small : L.length ≤ 1000
  rows : ∃ (la oa sa : Option Addr) (lb ob sb lc oc sc : Nat),
    w.cell? ⟨tb, 0, none⟩ = some (.slice la L.length lc) ∧ w.cell? ⟨tb, 1, none⟩ = some (.slice (some ⟨ob, 0, none⟩) (L.length + 1) oc) ∧ w.cell? ⟨tb, 2, none⟩ = some (.slice sa L.length sc) ∧
    (0 < L.length → la = some ⟨lb, 0, none⟩) ∧ (0 < L.length → sa = some ⟨sb, 0, none⟩) ∧
    (∀ j, j < L.length → w.cell? ⟨lb, j * 2, none⟩ = some (.int .i64 (L.getD j (0, 0)).1)) ∧ (∀ j, j < L.length → w.cell? ⟨lb, j * 2 + 1, none⟩ = some (.int .i64 (L.getD j (0, 0)).2)) ∧
    (∀ j, j < L.length + 1 → w.cell? ⟨ob, j, none⟩ = some (.int .i64 ((offs o L).getD j 0))) ∧ (∀ j, j < L.length → w.cell? ⟨sb, j, none⟩ = some (.int .i64 ((sts o L).getD j 0)))

theorem TabAt.below {w w' : World} {tb : Nat} {L : List (Int × Int)} {o : Int} (h : TabAt w tb L o) (hb : Below w.heap.size w w') : TabAt w' tb L o := by
  obtain ⟨h0, la, oa, sa, lb, ob, sb, lc, oc, sc, c0, c1, c2, h1, h2, d1, d2, d3, d4⟩ := h
  have k : ∀ (a : Addr) (v : Value), w.cell? a = some v → w'.cell? a = some v := fun a v hc => by
    rw [hb.cell (World.block_lt_of_cell? w a hc)]; exact hc
  exact ⟨h0, la, oa, sa, lb, ob, sb, lc, oc, sc, k _ _ c0, k _ _ c1, k _ _ c2, h1, h2, fun j hj => k _ _ (d1 j hj), fun j hj => k _ _ (d2 j hj), fun j hj => k _ _ (d3 j hj), fun j hj => k _ _ (d4 j hj)⟩

theorem TabAt.happened {w : World} {tb : Nat} {L : List (Int × Int)} {o : Int} (h : TabAt w tb L o) (tai : Int) :
    Calls Tryd.prog 25 #[.pointer (some ⟨tb, 0, none⟩), .int .i64 tai] w fun e w' => e = .returned (.tuple #[.int .i64 (cnt tai (sts o L)), .bool (secOf tai L (sts o L))]) ∧ Below w.heap.size w w' := by
  obtain ⟨h0, la, oa, sa, lb, ob, sb, lc, oc, sc, c0, c1, c2, h1, h2, d1, d2, d3, d4⟩ := h
  exact happened_t tai L (sts o L) tb lb sb lc sc L.length la sa w (sts_len o L).symm rfl h0 h1 h2 c0 c2 d2 (by rw [sts_len]; exact d4)

/-- The offset at a time. -/
def offAt (tai o : Int) (L : List (Int × Int)) : Int := (offs o L).getD (if secOf tai L (sts o L) = true then cnt tai (sts o L) - 1 else cnt tai (sts o L)) 0

set_option maxHeartbeats 1000000 in
theorem offset_t (tai o : Int) (L : List (Int × Int)) (tb : Nat) (w : World) (h : TabAt w tb L o) :
    Calls Tryd.prog 17 #[.pointer (some ⟨tb, 0, none⟩), .int .i64 tai] w fun e w' => e = .returned (.int .i64 (offAt tai o L)) ∧ Below w.heap.size w w' := by
  have HH := Lib.hid (h.happened tai)
  have hle := cnt_le tai (sts o L)
  rw [sts_len] at hle
  obtain ⟨h0, la, oa, sa, lb, ob, sb, lc, oc, sc, c0, c1, c2, h1, h2, d1, d2, d3, d4⟩ := h
  have HO : Hid (offAt tai o L = (offs o L).getD (if secOf tai L (sts o L) = true then cnt tai (sts o L) - 1 else cnt tai (sts o L)) 0) := rfl
  cases hs : secOf tai L (sts o L)
  · rw [hs] at HH HO
    obtain ⟨k, hk⟩ : ∃ k, cnt tai (sts o L) = k := ⟨_, rfl⟩
    rw [hk] at HH HO hle
    obtain ⟨x, hx⟩ : ∃ x, x = (offs o L).getD k 0 := ⟨_, rfl⟩
    have HX : Hid (offAt tai o L = x) := by show _ = _; rw [HO.out, hx]; simp
    have e2 := d3 k (by omega)
    rw [← hx] at e2
    clear hs hk hx HO d1 d2 d3 d4 c0 c2 h1 h2
    have l1 := World.block_lt_of_cell? w _ c1
    have l2 := World.block_lt_of_cell? w _ e2
    rw [HX.out]
    go_enter Tryd.func17, Tryd.ntmps17
    go_wp2_with fail
    refine HH.out.mono ?_
    rintro e w1 ⟨rfl, hb1⟩
    have f1 := (hb1.cell (p := ⟨tb, 1, none⟩) l1).trans c1
    have f2 := (hb1.cell (p := ⟨ob, k, none⟩) l2).trans e2
    clear c1 e2
    go_wp2_with fail
    go_ret
    exact ⟨rfl, hb1⟩
  · rw [hs] at HH HO
    have hpos : 0 < cnt tai (sts o L) := by
      unfold secOf at hs
      rw [Bool.and_eq_true, decide_eq_true_iff] at hs
      exact hs.1
    obtain ⟨k, hk⟩ : ∃ k, cnt tai (sts o L) = k + 1 := ⟨cnt tai (sts o L) - 1, by omega⟩
    rw [hk, show (((k + 1 : Nat) : Int)) = (k : Int) + 1 from by omega] at HH
    rw [hk] at HO hle
    obtain ⟨x, hx⟩ : ∃ x, x = (offs o L).getD k 0 := ⟨_, rfl⟩
    have HX : Hid (offAt tai o L = x) := by show _ = _; rw [HO.out, hx]; simp
    have e2 := d3 k (by omega)
    rw [← hx] at e2
    clear hs hk hx HO d1 d2 d3 d4 c0 c2 h1 h2 hpos
    have l1 := World.block_lt_of_cell? w _ c1
    have l2 := World.block_lt_of_cell? w _ e2
    rw [HX.out]
    go_enter Tryd.func17, Tryd.ntmps17
    go_wp2_with fail
    refine HH.out.mono ?_
    rintro e w1 ⟨rfl, hb1⟩
    have f1 := (hb1.cell (p := ⟨tb, 1, none⟩) l1).trans c1
    have f2 := (hb1.cell (p := ⟨ob, k, none⟩) l2).trans e2
    clear c1 e2
    go_wp2_with fail
    go_ret
    exact ⟨rfl, hb1⟩

/-- One block that lay below is as it was. -/
theorem bone {W w1 : World} {B : Nat} (hb : Below B W w1) (b : Nat) (h : b < B) : (∀ o, w1.cell? ⟨b, o, none⟩ = W.cell? ⟨b, o, none⟩) ∧ (∀ o, w1.frozen? ⟨b, o, none⟩ = W.frozen? ⟨b, o, none⟩) :=
  ⟨fun o => hb.cell (p := ⟨b, o, none⟩) h, fun o => hb.frozen (p := ⟨b, o, none⟩) h⟩

/-- Numbers of a size. -/
structure TabOk (o : Int) (L : List (Int × Int)) : Prop where
  offsets : ∀ j, -1000000 ≤ (offs o L).getD j 0 ∧ (offs o L).getD j 0 ≤ 1000000
  days : ∀ j, 0 ≤ (L.getD j (0, 0)).1 ∧ (L.getD j (0, 0)).1 ≤ 3000000

def labOut (tai o : Int) (L : List (Int × Int)) : Lab × Bool :=
  if tai < 0 then (Lab.zero, false)
  else if secOf tai L (sts o L) = true then (sixty (L.getD (cnt tai (sts o L) - 1) (0, 0)).1, okDay (L.getD (cnt tai (sts o L) - 1) (0, 0)).1)
  else (ofSec (tai - (offs o L).getD (cnt tai (sts o L)) 0), okSec (tai - (offs o L).getD (cnt tai (sts o L)) 0))

set_option maxHeartbeats 2000000 in
theorem label_t (tai o : Int) (L : List (Int × Int)) (tb : Nat) (w : World) (h : TabAt w tb L o) (hk : TabOk o L) (ht1 : -2000000000000000 ≤ tai) (ht2 : tai ≤ 2000000000000000) :
    Calls Tryd.prog 12 #[.pointer (some ⟨tb, 0, none⟩), .int .i64 tai] w fun e w' => e = .returned (.tuple #[(labOut tai o L).1.val, .bool (labOut tai o L).2]) ∧ Below w.heap.size w w' := by
  have HH : Hid (Calls Tryd.prog 25 #[.pointer (some ⟨tb, 0, none⟩), .int .i64 tai] (w.alloc (.cells #[.int .i64 0, .int .i64 0, .int .i64 0, .int .i64 0, .int .i64 0, .int .i64 0] 29)) fun e w' =>
      e = .returned (.tuple #[.int .i64 (cnt tai (sts o L)), .bool (secOf tai L (sts o L))]) ∧ Below (w.alloc (.cells #[.int .i64 0, .int .i64 0, .int .i64 0, .int .i64 0, .int .i64 0, .int .i64 0] 29)).heap.size (w.alloc (.cells #[.int .i64 0, .int .i64 0, .int .i64 0, .int .i64 0, .int .i64 0, .int .i64 0] 29)) w') :=
    (h.below ((Below.refl _ _).alloc (Nat.le_refl _) _)).happened tai
  have hle := cnt_le tai (sts o L)
  rw [sts_len] at hle
  have HO : Hid (labOut tai o L = if tai < 0 then (Lab.zero, false)
    else if secOf tai L (sts o L) = true then (sixty (L.getD (cnt tai (sts o L) - 1) (0, 0)).1, okDay (L.getD (cnt tai (sts o L) - 1) (0, 0)).1)
    else (ofSec (tai - (offs o L).getD (cnt tai (sts o L)) 0), okSec (tai - (offs o L).getD (cnt tai (sts o L)) 0))) := rfl
  obtain ⟨h0, la, oa, sa, lb, ob, sb, lc, oc, sc, c0, c1, c2, h1, h2, d1, d2, d3, d4⟩ := h
  obtain ⟨b1, b2⟩ := hk
  by_cases hneg : tai < 0
  · have HX : Hid ((labOut tai o L).1 = Lab.zero ∧ (labOut tai o L).2 = false) := by rw [HO.out, if_pos hneg]; exact ⟨rfl, rfl⟩
    rw [HX.out.1, HX.out.2]
    generalize (cnt tai (sts o L) : Int) = kk at *
    generalize secOf tai L (sts o L) = ss at *
    clear b1 b2 d1 d2 d3 d4 c0 c1 c2 h1 h2 HO HX hle
    go_enter Tryd.func12, Tryd.ntmps12
    go_wp2_with fail
    refine HH.out.mono ?_
    rintro e w1 ⟨rfl, hb1⟩
    obtain ⟨hc1, hf1⟩ := bone hb1 w.heap.size (by simp)
    have hz1 : w.heap.size < w1.heap.size := by have := hb1.size; simp at this; omega
    go_wp2_with fail
    exact bodyPost_ret (v := .tuple #[Lab.zero.val, .bool false]) (by simp [results, Tryd.results12, go_sem, Lab.zero, hc1, hz1]) rfl ⟨rfl, by (repeat (with_reducible refine Below.setCell ?_ (by simp) _)); exact (((Below.refl _ _).alloc (Nat.le_refl _) _).trans (hb1.mono (by simp)))⟩
  · cases hs : secOf tai L (sts o L)
    · rw [hs] at HH HO
      obtain ⟨k, hk⟩ : ∃ k, cnt tai (sts o L) = k := ⟨_, rfl⟩
      rw [hk] at HH HO hle
      have bx := b1 k
      have e2 := d3 k (by omega)
      obtain ⟨x, hx⟩ : ∃ x, x = (offs o L).getD k 0 := ⟨_, rfl⟩
      rw [← hx] at e2 bx
      have HX : Hid ((labOut tai o L).1 = ofSec (tai - x) ∧ (labOut tai o L).2 = okSec (tai - x)) := by rw [HO.out, if_neg hneg, if_neg (by simp), ← hx]; exact ⟨rfl, rfl⟩
      rw [HX.out.1, HX.out.2]
      obtain ⟨bx1, bx2⟩ := bx
      have l1 := World.block_lt_of_cell? w _ c1
      have l2 := World.block_lt_of_cell? w _ e2
      clear hs hk hx HO HX d1 d2 d3 d4 c0 c2 h1 h2 b1 b2
      go_enter Tryd.func12, Tryd.ntmps12
      go_wp2_with fail
      refine HH.out.mono ?_
      rintro e w1 ⟨rfl, hb1⟩
      obtain ⟨hc1, hf1⟩ := bone hb1 w.heap.size (by simp)
      have hz1 : w.heap.size < w1.heap.size := by have := hb1.size; simp at this; omega
      have f1 : w1.cell? ⟨tb, 1, none⟩ = some (.slice (some ⟨ob, 0, none⟩) (L.length + 1) oc) := (hb1.cell (p := ⟨tb, 1, none⟩) (by simp; omega)).trans (by rw [World.cell?_alloc_past _ _ _ l1]; exact c1)
      have f2 : w1.cell? ⟨ob, k, none⟩ = some (.int .i64 x) := (hb1.cell (p := ⟨ob, k, none⟩) (by simp; omega)).trans (by rw [World.cell?_alloc_past _ _ _ l2]; exact e2)
      clear c1 e2
      go_wp2_with fail
      refine (of_t (tai - x) _ (by omega)).mono ?_
      rintro e w2 ⟨rfl, hb2⟩
      obtain ⟨hc2, hf2⟩ := bone hb2 w.heap.size hz1
      have hz2 : w.heap.size < w2.heap.size := by have := hb2.size; omega
      clear f1 f2
      go_wp2_with fail
      exact bodyPost_ret (v := .tuple #[(ofSec (tai - x)).val, .bool (okSec (tai - x))]) (by simp [results, Tryd.results12, go_sem, hc1, hz1, hc2, hz2]) rfl ⟨rfl, by (repeat (with_reducible refine Below.setCell ?_ (by simp) _)); exact (((Below.refl _ _).alloc (Nat.le_refl _) _).trans (hb1.mono (by simp))).trans (hb2.mono (by omega))⟩
    · rw [hs] at HH HO
      have hpos : 0 < cnt tai (sts o L) := by
        unfold secOf at hs
        rw [Bool.and_eq_true, decide_eq_true_iff] at hs
        exact hs.1
      obtain ⟨k, hk⟩ : ∃ k, cnt tai (sts o L) = k + 1 := ⟨cnt tai (sts o L) - 1, by omega⟩
      rw [hk, show (((k + 1 : Nat) : Int)) = (k : Int) + 1 from by omega] at HH
      rw [hk] at HO hle
      have bx := b2 k
      have e2 := d1 k (by omega)
      obtain ⟨x, hx⟩ : ∃ x, x = (L.getD k (0, 0)).1 := ⟨_, rfl⟩
      rw [← hx] at e2 bx
      have HX : Hid ((labOut tai o L).1 = sixty x ∧ (labOut tai o L).2 = okDay x) := by
        rw [HO.out, if_neg hneg, if_pos rfl, hx]; exact ⟨rfl, rfl⟩
      rw [HX.out.1, HX.out.2]
      obtain ⟨bx1, bx2⟩ := bx
      obtain rfl : la = some ⟨lb, 0, none⟩ := h1 (by omega)
      have l1 := World.block_lt_of_cell? w _ c0
      have l2 := World.block_lt_of_cell? w _ e2
      clear hs hk hx HO HX d1 d2 d3 d4 c1 c2 h1 h2 b1 b2 hpos
      go_enter Tryd.func12, Tryd.ntmps12
      go_wp2_with fail
      refine HH.out.mono ?_
      rintro e w1 ⟨rfl, hb1⟩
      obtain ⟨hc1, hf1⟩ := bone hb1 w.heap.size (by simp)
      have hz1 : w.heap.size < w1.heap.size := by have := hb1.size; simp at this; omega
      have f1 : w1.cell? ⟨tb, 0, none⟩ = some (.slice (some ⟨lb, 0, none⟩) L.length lc) := (hb1.cell (p := ⟨tb, 0, none⟩) (by simp; omega)).trans (by rw [World.cell?_alloc_past _ _ _ l1]; exact c0)
      have f2 : w1.cell? ⟨lb, k * 2, none⟩ = some (.int .i64 x) := (hb1.cell (p := ⟨lb, k * 2, none⟩) (by simp; omega)).trans (by rw [World.cell?_alloc_past _ _ _ l2]; exact e2)
      clear c0 e2
      go_wp2_with fail
      refine (sixtieth_t x _ (by omega)).mono ?_
      rintro e w2 ⟨rfl, hb2⟩
      obtain ⟨hc2, hf2⟩ := bone hb2 w.heap.size hz1
      have hz2 : w.heap.size < w2.heap.size := by have := hb2.size; omega
      clear f1 f2
      go_wp2_with fail
      exact bodyPost_ret (v := .tuple #[(sixty x).val, .bool (okDay x)]) (by simp [results, Tryd.results12, go_sem, hc1, hz1, hc2, hz2]) rfl ⟨rfl, by (repeat (with_reducible refine Below.setCell ?_ (by simp) _)); exact (((Below.refl _ _).alloc (Nat.le_refl _) _).trans (hb1.mono (by simp))).trans (hb2.mono (by omega))⟩
end Go.Proofs.YtmjmoihggojpiaaDoor
