/- The walk of leap.New: the loop. -/
import Derived.Test.YtmjmoihggojpiaaDoorNewWalkA
import Derived.Test.YtmjmoihggojpiaaDoorHeldUntil
import Derived.Deep.DeepCutAuto
import Derived.Deep.DrawnRows
import Derived.OneCell
set_option linter.unusedSimpArgs false
set_option linter.unusedVariables false
namespace Go.Proofs.YtmjmoihggojpiaaDoor
open Go.RowKit Civ
attribute [local go_sem] isSome_setCell
attribute [local go_sem ↓] Go.wp_at_zero Go.wp_at_succ

/-- What a row that is owned gives to who reads it. -/
theorem owns_read {w : World} {base : Nat} {e : TypeId} {size : Nat} {v : Value} {n : Nat} {xs : List Value} (h : w.ownsRow base e size v n xs) :
    ∃ va vb vc, v = .slice va n vc ∧ (0 < n → va = some ⟨vb, 0, none⟩ ∧ base ≤ vb ∧ vb < w.heap.size) ∧ ∀ j u, xs[j]? = some u → w.cell? ⟨vb, j, none⟩ = some u := by
  obtain ⟨hlen, h2⟩ := h
  rcases h2 with ⟨rfl, rfl⟩ | ⟨g, cap, cur, rfl, hb, hg, h3, h4, h5, h6⟩
  · refine ⟨none, 0, 0, rfl, fun h => by omega, fun j u hu => ?_⟩
    have : xs = [] := List.eq_nil_of_length_eq_zero (by omega)
    rw [this] at hu; simp at hu
  · refine ⟨some ⟨g, 0, none⟩, g, cap, rfl, fun _ => ⟨rfl, hb, ?_⟩, fun j u hu => ?_⟩
    · rcases Nat.lt_or_ge g w.heap.size with hlt | hge
      · exact hlt
      · rw [Array.getElem?_eq_none hge] at hg; cases hg
    · rw [cell_of_row w g j cur e (0, 0) hg]
      rw [← h6] at hu
      have := (List.getElem?_eq_some_iff.1 hu).1
      rw [List.getElem?_take] at hu
      split at hu
      · simpa using hu
      · cases hu

def ints (xs : List Int) : List Value := xs.map (Value.int .i64)

/-- A table under way, of so many leaps. -/
def NewAt (w1 wr : World) (tb B : Nat) (va : Option Addr) (n vc : Nat) (first : Int) (L : List (Int × Int)) (k : Nat) : Prop :=
  ∃ (oa sa : Option Addr) (oc sc : Nat), wr.cell? ⟨tb, 0, none⟩ = some (.slice va n vc) ∧ wr.cell? ⟨tb, 1, none⟩ = some (.slice oa (k + 1) oc) ∧ wr.cell? ⟨tb, 2, none⟩ = some (.slice sa k sc) ∧ (∀ i, wr.frozen? ⟨tb, i, none⟩ = false) ∧
    wr.ownsRow B 3 1 (.slice oa (k + 1) oc) (k + 1) (ints ((offs first L).take (k + 1))) ∧ wr.ownsRow B 3 1 (.slice sa k sc) k (ints ((sts first L).take k)) ∧
    (Value.slice oa (k + 1) oc).ownBlock ≠ some tb ∧ (Value.slice sa k sc).ownBlock ≠ some tb ∧ (Value.slice oa (k + 1) oc).ownBlock ≠ (Value.slice sa k sc).ownBlock ∧ tb < wr.heap.size ∧ Below B w1 wr

theorem owns_below {w w' : World} {base : Nat} {e : TypeId} {size : Nat} {v : Value} {n : Nat} {xs : List Value} (h : w.ownsRow base e size v n xs) (hb : Below w.heap.size w w') : w'.ownsRow base e size v n xs :=
  h.kept (row := none) ⟨hb.os, hb.tape, hb.output, hb.size, fun k hk _ => hb.block k hk⟩ (by cases v.ownBlock <;> simp)

theorem all1 {p : Nat → Prop} {a : Nat} (ha : p a) : ∀ i ∈ [a], p i := fun i hi => by
  rcases List.mem_singleton.1 hi with rfl; exact ha
theorem all2 {p : Nat → Prop} {a b : Nat} (ha : p a) (hb : p b) : ∀ i ∈ [a, b], p i := fun i hi => by
  rcases List.mem_cons.1 hi with rfl | hi
  · exact ha
  · rcases List.mem_singleton.1 hi with rfl; exact hb

/-- A table while one more leap is laid into it: what its fields hold, and two rows that are owned. -/
structure Mid (w1 wc : World) (tb B : Nat) (C0 OA SA Y : Value) (ny : Nat) (ys : List Value) (X : Value) (nx : Nat) (xs : List Value) : Prop where
  c0 : wc.cell? ⟨tb, 0, none⟩ = some C0
  c1 : wc.cell? ⟨tb, 1, none⟩ = some OA
  c2 : wc.cell? ⟨tb, 2, none⟩ = some SA
  fz : ∀ i, wc.frozen? ⟨tb, i, none⟩ = false
  oy : wc.ownsRow B 3 1 Y ny ys
  ox : wc.ownsRow B 3 1 X nx xs
  ne1 : Y.ownBlock ≠ some tb
  ne2 : X.ownBlock ≠ some tb
  ne3 : Y.ownBlock ≠ X.ownBlock
  lt : tb < wc.heap.size
  bl : Below B w1 wc

/-- What is appended next, in a block of its own. -/
structure Pend (wc : World) (tb : Nat) (Y X : Value) (g : Nat) (x : Int) : Prop where
  c : wc.cell? ⟨g, 0, none⟩ = some (.int .i64 x)
  ne : g ≠ tb
  ny : Y.ownBlock ≠ some g
  nx : X.ownBlock ≠ some g
  lt : g < wc.heap.size

theorem own_lt {w : World} {B n g : Nat} {v : Value} {xs : List Value} (h : w.ownsRow B 3 1 v n xs) (hg : v.ownBlock = some g) : B ≤ g ∧ g < w.heap.size := by
  rcases h.2 with ⟨rfl, rfl⟩ | ⟨g', cap, cur, rfl, hb, hg', _⟩
  · cases hg
  · simp [Value.ownBlock] at hg
    subst hg
    refine ⟨hb, ?_⟩
    rcases Nat.lt_or_ge g' w.heap.size with hlt | hge
    · exact hlt
    · rw [Array.getElem?_eq_none hge] at hg'; cases hg'

theorem Mid.alloc {w1 wc : World} {tb B : Nat} {C0 OA SA Y : Value} {ny : Nat} {ys : List Value} {X : Value} {nx : Nat} {xs : List Value} (h : Mid w1 wc tb B C0 OA SA Y ny ys X nx xs) (hB : B ≤ wc.heap.size) (o : Obj) :
    Mid w1 (wc.alloc o) tb B C0 OA SA Y ny ys X nx xs :=
  ⟨(World.cell?_alloc_past _ _ _ h.lt).trans h.c0, (World.cell?_alloc_past _ _ _ h.lt).trans h.c1, (World.cell?_alloc_past _ _ _ h.lt).trans h.c2, fun i => (World.frozen?_alloc_past _ _ _ h.lt).trans (h.fz i),
    h.oy.alloc _, h.ox.alloc _, h.ne1, h.ne2, h.ne3, by have := h.lt; simp; omega, h.bl.alloc hB _⟩
theorem Mid.pend {w1 wc : World} {tb B : Nat} {C0 OA SA Y : Value} {ny : Nat} {ys : List Value} {X : Value} {nx : Nat} {xs : List Value} (h : Mid w1 wc tb B C0 OA SA Y ny ys X nx xs) (x : Int) :
    Pend (wc.alloc (.cells #[.int .i64 x] 3)) tb Y X wc.heap.size x :=
  ⟨by go_simp, by have := h.lt; omega, fun e => by have := own_lt h.oy e; omega, fun e => by have := own_lt h.ox e; omega, by simp⟩
theorem Pend.alloc {wc : World} {tb g : Nat} {Y X : Value} {x : Int} (h : Pend wc tb Y X g x) (o : Obj) : Pend (wc.alloc o) tb Y X g x :=
  ⟨(World.cell?_alloc_past _ _ _ h.lt).trans h.c, h.ne, h.ny, h.nx, by have := h.lt; simp; omega⟩
theorem Mid.grown {w1 wc wA : World} {tb B : Nat} {C0 OA SA Y X : Value} {ny nx : Nat} {ys xs : List Value} (h : Mid w1 wc tb B C0 OA SA Y ny ys X nx xs) (hB : B ≤ wc.heap.size) {R : Value} {nr : Nat} {zs : List Value} (hR : wc.ownsRow B 3 1 R nr zs)
    (hr : R.ownBlock ≠ some tb) (hgrow : wc.grownBy wA R.ownBlock) :
    wA.cell? ⟨tb, 0, none⟩ = some C0 ∧ wA.cell? ⟨tb, 1, none⟩ = some OA ∧ wA.cell? ⟨tb, 2, none⟩ = some SA ∧ (∀ i, wA.frozen? ⟨tb, i, none⟩ = false) ∧ tb < wA.heap.size ∧ Below B w1 wA :=
  ⟨(hgrow.cell_far _ h.lt (Ne.symm hr)).trans h.c0, (hgrow.cell_far _ h.lt (Ne.symm hr)).trans h.c1, (hgrow.cell_far _ h.lt (Ne.symm hr)).trans h.c2, fun i => (hgrow.frozen_far _ h.lt (Ne.symm hr)).trans (h.fz i),
    Nat.lt_of_lt_of_le h.lt hgrow.size, h.bl.grown hgrow hB (fun k e => (own_lt hR e).1)⟩

theorem one_news {w : World} {g : Nat} {v : Value} (h : w.cell? ⟨g, 0, none⟩ = some v) : ∀ (j : Nat) (u : Value), [v][j]? = some u → w.cell? ((⟨g, 0, none⟩ : Addr).add j) = some u := fun j u hu => by
  rcases j with _ | j
  · simp at hu; subst hu; exact h
  · simp at hu
theorem Mid.appX {w1 wc wA : World} {tb B g1 cap m : Nat} {C0 OA SA Y X : Value} {ny nx : Nat} {ys xs zs : List Value} (h : Mid w1 wc tb B C0 OA SA Y ny ys X nx xs) (hB : B ≤ wc.heap.size)
    (hown : wA.ownsRow B 3 1 (.slice (some ⟨g1, 0, none⟩) m cap) m zs) (hgrow : wc.grownBy wA X.ownBlock) (hat : X.ownBlock = some g1 ∨ g1 = wc.heap.size) :
    Mid w1 wA tb B C0 OA SA Y ny ys (.slice (some ⟨g1, 0, none⟩) m cap) m zs := by
  obtain ⟨a0, a1, a2, a3, a4, a5⟩ := h.grown hB h.ox h.ne2 hgrow
  refine ⟨a0, a1, a2, a3, h.oy.kept hgrow (.inr h.ne3), hown, h.ne1, ?_, ?_, a4, a5⟩
  · intro e; simp [Value.ownBlock] at e
    rcases hat with hat | hat
    · exact h.ne2 (by rw [hat, e])
    · have := h.lt; omega
  · intro e; simp [Value.ownBlock] at e
    rcases hat with hat | hat
    · exact h.ne3 (by rw [hat]; exact e)
    · have := own_lt h.oy (g := g1) e; omega
theorem Mid.appY {w1 wc wA : World} {tb B g1 cap m : Nat} {C0 OA SA Y X : Value} {ny nx : Nat} {ys xs zs : List Value} (h : Mid w1 wc tb B C0 OA SA Y ny ys X nx xs) (hB : B ≤ wc.heap.size)
    (hown : wA.ownsRow B 3 1 (.slice (some ⟨g1, 0, none⟩) m cap) m zs) (hgrow : wc.grownBy wA Y.ownBlock) (hat : Y.ownBlock = some g1 ∨ g1 = wc.heap.size) :
    Mid w1 wA tb B C0 OA SA (.slice (some ⟨g1, 0, none⟩) m cap) m zs X nx xs := by
  obtain ⟨a0, a1, a2, a3, a4, a5⟩ := h.grown hB h.oy h.ne1 hgrow
  refine ⟨a0, a1, a2, a3, hown, h.ox.kept hgrow (.inr (Ne.symm h.ne3)), ?_, h.ne2, ?_, a4, a5⟩
  · intro e; simp [Value.ownBlock] at e
    rcases hat with hat | hat
    · exact h.ne1 (by rw [hat, e])
    · have := h.lt; omega
  · intro e; simp [Value.ownBlock] at e
    rcases hat with hat | hat
    · exact h.ne3 (by rw [hat]; exact e)
    · have := own_lt h.ox (g := g1) e.symm; omega
theorem Pend.appX {wc wA : World} {tb g g1 cap m : Nat} {Y X : Value} {x : Int} (h : Pend wc tb Y X g x) (hgrow : wc.grownBy wA X.ownBlock) (hat : X.ownBlock = some g1 ∨ g1 = wc.heap.size) :
    Pend wA tb Y (.slice (some ⟨g1, 0, none⟩) m cap) g x :=
  ⟨(hgrow.cell_far _ h.lt (Ne.symm h.nx)).trans h.c, h.ne, h.ny, fun e => by
    simp [Value.ownBlock] at e
    rcases hat with hat | hat
    · exact h.nx (by rw [hat, e])
    · have := h.lt; omega, Nat.lt_of_lt_of_le h.lt hgrow.size⟩
theorem offs_succ (o : Int) (L : List (Int × Int)) (k : Nat) (h : k < L.length) : (offs o L).getD (k + 1) 0 = (offs o L).getD k 0 + (L.getD k (0, 0)).2 := by
  induction L generalizing o k with
  | nil => simp at h
  | cons x l ih =>
    obtain ⟨d, s⟩ := x
    rcases k with _ | k
    · cases l with
      | nil => simp [offs]
      | cons y l => obtain ⟨a, b⟩ := y; simp [offs]
    · have := ih (o + s) k (by simpa using h)
      simpa [offs] using this
theorem sts_at (o : Int) (L : List (Int × Int)) (k : Nat) (h : k < L.length) : (sts o L).getD k 0 = startOf ((offs o L).getD k 0) (L.getD k (0, 0)) := by
  induction L generalizing o k with
  | nil => simp at h
  | cons x l ih =>
    obtain ⟨d, s⟩ := x
    rcases k with _ | k
    · simp [offs, sts]
    · have := ih (o + s) k (by simpa using h)
      simpa [offs, sts] using this
theorem offs_bd (o : Int) (L : List (Int × Int)) (k : Nat) (hk : k ≤ L.length) (h : ∀ j, j < k → (L.getD j (0, 0)).2 = 1 ∨ (L.getD j (0, 0)).2 = -1) :
    o - k ≤ (offs o L).getD k 0 ∧ (offs o L).getD k 0 ≤ o + k := by
  induction k with
  | zero => cases L with
    | nil => simp [offs]
    | cons x l => obtain ⟨a, b⟩ := x; simp [offs]
  | succ k ih =>
    have := ih (by omega) (fun j hj => h j (by omega))
    have h2 := h k (by omega)
    rw [offs_succ o L k (by omega)]
    omega
theorem rightAt_sign {L : List (Int × Int)} {k : Nat} (h : rightAt L k = true) : (L.getD k (0, 0)).2 = 1 ∨ (L.getD k (0, 0)).2 = -1 := by
  unfold rightAt at h
  simp only [Bool.and_eq_true, decide_eq_true_eq, Bool.or_eq_true, beq_iff_eq] at h
  exact h.2.2.1
theorem rightAt_day {L : List (Int × Int)} {k : Nat} (h : rightAt L k = true) : 1 ≤ (L.getD k (0, 0)).1 ∧ (L.getD k (0, 0)).1 ≤ 2932895 := by
  unfold rightAt at h
  simp only [Bool.and_eq_true, decide_eq_true_eq, Bool.or_eq_true, beq_iff_eq] at h
  exact ⟨h.1, h.2.1⟩
theorem ints_take (xs : List Int) (k : Nat) (h : k < xs.length) : ints (xs.take (k + 1)) = ints (xs.take k) ++ [.int .i64 (xs.getD k 0)] := by
  unfold ints
  rw [List.take_succ_eq_append_getElem h, List.map_append, List.getD_eq_getElem?_getD, List.getElem?_eq_getElem h]
  rfl

theorem newAt_of {w1 wc : World} {tb B n vc k : Nat} {va : Option Addr} {ga gb ca cb : Nat} {OA SA : Value} {first st f' : Int} {L : List (Int × Int)}
    (h : Mid w1 wc tb B (.slice va n vc) OA SA (.slice (some ⟨ga, 0, none⟩) (k + 1 + 1) ca) (k + 1 + 1) (ints ((offs first L).take (k + 1)) ++ [.int .i64 f']) (.slice (some ⟨gb, 0, none⟩) (k + 1) cb) (k + 1) (ints ((sts first L).take k) ++ [.int .i64 st]))
    (hB : B ≤ tb) (hk : k < L.length) (hf : f' = (offs first L).getD (k + 1) 0) (hs : st = (sts first L).getD k 0) :
    NewAt w1 ((wc.setCell ⟨tb, 2, none⟩ (.slice (some ⟨gb, 0, none⟩) (k + 1) cb)).setCell ⟨tb, 1, none⟩ (.slice (some ⟨ga, 0, none⟩) (k + 1 + 1) ca)) tb B va n vc first L (k + 1) := by
  have h0 := h.c0
  have h1 := h.c1
  have h2 := h.c2
  have hz := h.fz
  have hx := h.ox
  have hy := h.oy
  rw [hs, ← ints_take _ k (by rw [sts_len]; exact hk)] at hx
  rw [hf, ← ints_take _ (k + 1) (by rw [offs_len]; omega)] at hy
  refine ⟨some ⟨ga, 0, none⟩, some ⟨gb, 0, none⟩, ca, cb, by go_simp, by go_simp, by go_simp, fun i => by rw [World.frozen?_setCell, World.frozen?_setCell]; exact hz i, ?_, ?_, h.ne1, h.ne2, h.ne3, by have := h.lt; simp; omega, (h.bl.setCell (by simpa using hB) _).setCell (by simpa using hB) _⟩
  · exact ownsRow_setCell_other (ownsRow_setCell_other hy (by simpa using h.ne1) _) (by simpa using h.ne1) _
  · exact ownsRow_setCell_other (ownsRow_setCell_other hx (by simpa using h.ne2) _) (by simpa using h.ne2) _

theorem newAt_start (w1 : World) (va : Option Addr) (n vc : Nat) (first : Int) (L : List (Int × Int)) (ty : TypeId) :
    NewAt w1 ((w1.alloc (.cells #[.int .i64 first] 3)).alloc (.cells #[.slice va n vc, .slice (some ⟨w1.heap.size, 0, none⟩) 1 1, .slice none 0 0] ty)) (w1.heap.size + 1) w1.heap.size va n vc first L 0 := by
  have e : ints ((offs first L).take (0 + 1)) = [.int .i64 first] := by
    cases L with
    | nil => rfl
    | cons x l => obtain ⟨a, b⟩ := x; rfl
  refine ⟨some ⟨w1.heap.size, 0, none⟩, none, 1, 0, by go_simp, by go_simp, by go_simp, fun i => by go_simp, ?_, ?_, by simp [Value.ownBlock], by simp [Value.ownBlock], by simp [Value.ownBlock], by simp, ((Below.refl _ _).alloc (Nat.le_refl _) _).alloc (by simp) _⟩
  · rw [e]
    exact (World.ownsRow_lit w1 #[.int .i64 first] 1 (Nat.le_refl _) (by decide) rfl).alloc _
  · exact World.ownsRow_nil _ _ _ _

theorem tabAt_of {w1 wr : World} {tb B vb vc n : Nat} {va : Option Addr} {first : Int} {L : List (Int × Int)} (h : NewAt w1 wr tb B va n vc first L n) (hn : n = L.length) (hl : n ≤ 1000) (hv1 : 0 < n → va = some ⟨vb, 0, none⟩ ∧ vb < B)
    (hv2 : ∀ (j : Nat) (u : Value), (leapCells L)[j]? = some u → w1.cell? ⟨vb, j, none⟩ = some u) : TabAt wr tb L first := by
  obtain ⟨oa, sa, oc, sc, n0, n1, n2, nf, on1, on2, ne1, ne2, ne3, hz, hb⟩ := h
  subst hn
  obtain ⟨pa, pb, pc, e1, p1, p2⟩ := owns_read on1
  obtain ⟨qa, qb, qc, e2, q1, q2⟩ := owns_read on2
  simp only [Value.slice.injEq, true_and] at e1 e2
  obtain ⟨rfl, rfl⟩ := e1
  obtain ⟨rfl, rfl⟩ := e2
  obtain ⟨rfl, _⟩ := p1 (by omega)
  have rd : ∀ (xs : List Int) (j m : Nat), j < m → j < xs.length → (ints (xs.take m))[j]? = some (.int .i64 (xs.getD j 0)) := fun xs j m hj hx => by
    simp [ints, List.getElem?_take, hj, List.getElem?_eq_getElem hx, List.getD_eq_getElem?_getD]
  refine ⟨hl, va, some ⟨pb, 0, none⟩, sa, vb, pb, qb, vc, oc, sc, n0, n1, n2, fun h => (hv1 h).1, fun h => (q1 h).1, fun j hj => ?_, fun j hj => ?_, fun j hj => ?_, fun j hj => ?_⟩
  · rw [hb.cell (p := ⟨vb, j * 2, none⟩) (hv1 (by omega)).2]; exact hv2 _ _ (leapCells_fst L j hj)
  · rw [hb.cell (p := ⟨vb, j * 2 + 1, none⟩) (hv1 (by omega)).2]; exact hv2 _ _ (leapCells_snd L j hj)
  · exact p2 j _ (rd _ _ _ hj (by rw [offs_len]; exact hj))
  · exact q2 j _ (rd _ _ _ hj (by rw [sts_len]; exact hj))

theorem rightAll {L : List (Int × Int)} {k : Nat} (h : rightAt L k = true) (hr : ∀ j, j < k → rightAt L j = true) : Hid (∀ j, j < k + 1 → rightAt L j = true) := fun j hj => by
  by_cases e : j = k
  · subst e; exact h
  · exact hr j (by omega)
set_option maxHeartbeats 4000000 in
theorem new_t (first : Int) (L : List (Int × Int)) (la : Option Addr) (lb c : Nat) (w : World) (hf1 : 0 ≤ first) (hf2 : first ≤ 30000) (hl : L.length ≤ 64) (hla : la = some ⟨lb, 0, none⟩)
    (d1 : ∀ j, j < L.length → w.cell? ⟨lb, j * 2, none⟩ = some (.int .i64 (L.getD j (0, 0)).1)) (d2 : ∀ j, j < L.length → w.cell? ⟨lb, j * 2 + 1, none⟩ = some (.int .i64 (L.getD j (0, 0)).2)) :
    Calls Tryd.prog 15 #[.int .i64 first, .slice la L.length c] w fun e w' => ((∀ k, k < L.length → rightAt L k = true) ∧ ∃ tb, e = .returned (.tuple #[.pointer (some ⟨tb, 0, none⟩), .int .i64 0]) ∧ TabAt w' tb L first ∧ Below w.heap.size w w') ∨
      ((∃ k, k < L.length ∧ rightAt L k = false) ∧ e = .returned (.tuple #[.pointer none, .int .i64 160]) ∧ Below w.heap.size w w') := by
  subst hla
  have HC := Lib.hid (clone_t L lb c w (by omega) d1 d2)
  have HD1 := Lib.hid d1
  have HD2 := Lib.hid d2
  clear d1 d2
  have z1 : decide (first < 0) = false := decide_eq_false (by omega)
  have z2 : decide (30000 < first) = false := decide_eq_false (by omega)
  have z3 : decide ((64 : Int) < (L.length : Int)) = false := decide_eq_false (by omega)
  go_enter Tryd.func15, Tryd.ntmps15
  go_wp2_with fail
  refine HC.out.mono ?_
  rintro e w1 ⟨v', rfl, ho, hb1⟩
  obtain ⟨va, vb, vc, rfl, hv1, hv2⟩ := owns_read ho
  have HV1 := Lib.hid hv1
  have HV2 := Lib.hid hv2
  have HB1 := Lib.hid hb1
  have hz1 : w.heap.size ≤ w1.heap.size := hb1.size
  clear ho hb1 hv1 hv2
  go_wp2_with fail
  have hN : Hid (NewAt w1 ((w1.alloc (.cells #[.int .i64 first] 3)).alloc (.cells #[.slice va L.length vc, .slice (some ⟨w1.heap.size, 0, none⟩) 1 1, .slice none 0 0] 68)) (w1.heap.size + 1) w1.heap.size va L.length vc first L 0) := newAt_start _ _ _ _ _ _ _
  obtain ⟨B, hB⟩ : ∃ B, B = w1.heap.size := ⟨_, rfl⟩
  go_loopw [0, 9, 29] (fun f u i wr => ∃ k : Nat, k ≤ L.length ∧ i = .int .i64 k ∧ f = .int .i64 ((offs first L).getD k 0) ∧ Hid (NewAt w1 wr (w1.heap.size + 1) w1.heap.size va L.length vc first L k) ∧ Hid (∀ j, j < k → rightAt L j = true)) (fun _ _ i _ => L.length - (intOf i).toNat)
  case atStart => exact ⟨0, Nat.zero_le _, rfl, by cases L <;> rfl, hN, fun j hj => by omega⟩
  case round =>
    obtain ⟨k, hk, rfl, rfl, hn, hr⟩ := hrel
    obtain ⟨oa, sa, oc, sc, n0, n1, n2, nf, on1, on2, ne1, ne2, ne3, hz, hb⟩ := hn.out
    by_cases hlt : k < L.length
    · have ez : w.heap.size ≤ wr.heap.size := by have := hb.size; omega
      have hbw : Hid (Below w.heap.size w wr) := HB1.out.trans (hb.mono hz1)
      have e1 := (hbw.out.cell (World.block_lt_of_cell? w _ (HD1.out k hlt))).trans (HD1.out k hlt)
      have e2 := (hbw.out.cell (World.block_lt_of_cell? w _ (HD2.out k hlt))).trans (HD2.out k hlt)
      have HR : Hid (Calls Tryd.prog 29 #[.slice (some ⟨lb, 0, none⟩) L.length c, .int .i64 k] (wr.alloc (.cells #[.int .i64 (L.getD k (0, 0)).1, .int .i64 (L.getD k (0, 0)).2] 56)) fun e w' => e = .returned (.bool (rightAt L k)) ∧ Below (wr.alloc (.cells #[.int .i64 (L.getD k (0, 0)).1, .int .i64 (L.getD k (0, 0)).2] 56)).heap.size (wr.alloc (.cells #[.int .i64 (L.getD k (0, 0)).1, .int .i64 (L.getD k (0, 0)).2] 56)) w') := by
        exact lright_t L lb _ c k _ rfl (by omega) hlt (fun j hj => (World.cell?_alloc_past _ _ _ (World.block_lt_of_cell? _ _ (((hbw.out.cell (World.block_lt_of_cell? w _ (HD1.out j hj))).trans (HD1.out j hj))))).trans ((hbw.out.cell (World.block_lt_of_cell? w _ (HD1.out j hj))).trans (HD1.out j hj)))
          (fun j hj => (World.cell?_alloc_past _ _ _ (World.block_lt_of_cell? _ _ (((hbw.out.cell (World.block_lt_of_cell? w _ (HD2.out j hj))).trans (HD2.out j hj))))).trans ((hbw.out.cell (World.block_lt_of_cell? w _ (HD2.out j hj))).trans (HD2.out j hj)))
          (fun h0 => by have := rightAt_day (hr.out (k - 1) (by omega)); omega)
      obtain ⟨⟨x, s⟩, hx⟩ : ∃ x, x = L.getD k (0, 0) := ⟨_, rfl⟩
      rw [← hx] at e1 e2 HR
      have HX := Lib.hid hx
      clear hx
      obtain ⟨f, hf⟩ : ∃ f, f = (offs first L).getD k 0 := ⟨_, rfl⟩
      have HF := Lib.hid hf
      rw [← hf]
      clear hf
      have HON := Lib.hid on1
      have HOS := Lib.hid on2
      have HNE := Lib.hid (And.intro ne1 (And.intro ne2 ne3))
      have HBL := Lib.hid hb
      clear on1 on2 ne1 ne2 ne3 hb
      have l1 := World.block_lt_of_cell? wr _ e1
      go_wp2_with fail
      refine HR.out.mono ?_
      rintro e w3 ⟨rfl, hb3⟩
      cases hra : rightAt L k
      · go_wp2_with fail
        go_ret2
        exact .inr ⟨⟨k, hlt, hra⟩, rfl, (hbw.out.alloc hbw.out.size _).trans (hb3.mono (by simp; omega))⟩
      · have hx1 : 1 ≤ x ∧ x ≤ 2932895 ∧ (s = 1 ∨ s = -1) := by
          unfold rightAt at hra
          rw [← HX.out] at hra
          simp only [Bool.and_eq_true, decide_eq_true_eq, Bool.or_eq_true, beq_iff_eq] at hra
          exact ⟨hra.1, hra.2.1, hra.2.2.1⟩
        obtain ⟨x1, x2, hs⟩ := hx1
        have hfb : -64 ≤ f ∧ f ≤ 30064 := by
          have := offs_bd first L k hk (fun j hj => rightAt_sign (hr.out j hj))
          rw [HF.out]; omega
        obtain ⟨hc3, hf3⟩ := bone hb3 wr.heap.size (by simp)
        obtain ⟨hc3t, hf3t⟩ := bone hb3 (w1.heap.size + 1) (by simp; omega)
        have hz3 : wr.heap.size < w3.heap.size := by have := hb3.size; simp at this; omega
        have hz3t : w1.heap.size + 1 < w3.heap.size := by omega
        have HRA := Lib.hid hra
        clear hra
        go_wp2_with fail
        refine (end_t x s _ (by omega) (by omega)).mono ?_
        rintro e w4 ⟨rfl, hb4⟩
        obtain ⟨hc4, hf4⟩ := bone hb4 wr.heap.size hz3
        obtain ⟨hc4t, hf4t⟩ := bone hb4 (w1.heap.size + 1) hz3t
        have hz4 : wr.heap.size < w4.heap.size := by have := hb4.size; omega
        have hz4t : w1.heap.size + 1 < w4.heap.size := by omega
        have HS4 := Lib.hid (owns_below (owns_below (HOS.out.alloc _) hb3) hb4)
        have HO4 := Lib.hid (owns_below (owns_below (HON.out.alloc _) hb3) hb4)
        have m0 : w4.cell? ⟨w1.heap.size + 1, 0, none⟩ = some (.slice va L.length vc) := by rw [hc4t, hc3t, World.cell?_alloc_past _ _ _ hz]; exact n0
        have m1 : w4.cell? ⟨w1.heap.size + 1, 1, none⟩ = some (.slice oa (k + 1) oc) := by rw [hc4t, hc3t, World.cell?_alloc_past _ _ _ hz]; exact n1
        have m2 : w4.cell? ⟨w1.heap.size + 1, 2, none⟩ = some (.slice sa k sc) := by rw [hc4t, hc3t, World.cell?_alloc_past _ _ _ hz]; exact n2
        have mf : ∀ i, w4.frozen? ⟨w1.heap.size + 1, i, none⟩ = false := fun i => by rw [hf4t, hf3t, World.frozen?_alloc_past _ _ _ hz]; exact nf i
        have mx : w4.cell? ⟨wr.heap.size, 1, none⟩ = some (.int .i64 s) := by rw [hc4, hc3]; go_simp
        clear hc4t hc3t hf4t hf3t hc4 hc3 hf4 hf3 n0 n1 n2 nf e1 e2
        obtain ⟨i0, hi0, hq0, hq1, hq2⟩ := info_parts infoInt
        have hz4u : w1.heap.size < w4.heap.size := by omega
        clear HC HR
        obtain ⟨wc, hwc⟩ : ∃ wc, wc = w4.drew := ⟨_, rfl⟩
        have hBc : w1.heap.size ≤ wc.heap.size := by rw [hwc]; simp; omega
        have HM : Hid (Mid w1 wc (w1.heap.size + 1) w1.heap.size (.slice va L.length vc) (.slice oa (k + 1) oc) (.slice sa k sc) (.slice oa (k + 1) oc) (k + 1) (ints ((offs first L).take (k + 1))) (.slice sa k sc) k (ints ((sts first L).take k))) := by
          rw [hwc]
          exact ⟨m0, m1, m2, mf, HO4.out, HS4.out, HNE.out.1, HNE.out.2.1, HNE.out.2.2, by simp; omega, (((HBL.out.alloc (by omega) _).trans (hb3.mono (by simp; omega))).trans (hb4.mono (by omega))).drew⟩
        have hof := offs_succ first L k hlt
        have hst := sts_at first L k hlt
        rw [← HX.out, ← HF.out] at hof hst
        rcases hs with rfl | rfl
        · have HOF := Lib.hid hof
          have HST := Lib.hid (hst.trans (show startOf f (x, 1) = (x + 1) * 86400 + f from by simp [startOf]))
          clear hof hst
          go_wp2_with fail
          generalize (x + 1) * 86400 + f = st at HST ⊢
          generalize f + 1 = f' at HOF ⊢
          refine wp_region_until (S := fun w' => w'.cell? ⟨w1.heap.size + 1, 1, none⟩ = some (.slice oa (k + 1) oc) ∧ w'.cell? ⟨w1.heap.size + 1, 2, none⟩ = some (.slice sa k sc)) (B := [0, 1, 2, 3, 4, 6, 9, 10, 11, 13, 16, 17, 18, 19, 20, 21]) (by kernel_rfl) ?_
          rw [← hwc]
          clear hwc m0 m1 m2 mf HS4 HO4
          refine wpAnyU_takeB (i := 0) (v := .pointer (some ⟨w1.heap.size + 1, 0, none⟩)) rfl (by kernel_rfl) (by kernel_rfl) (by kernel_rfl) (by kernel_rfl) (fun _ _ _ h => h) (Or.inl ⟨by rfl, fun w => by go_simp⟩) ?_
          simp only [Act.put, List.setIfInBounds_toArray, List.set_cons_zero, List.set_cons_succ]
          refine wpAnyU_takeB (i := 1) (v := .pointer (some ⟨w1.heap.size + 1, 0, none⟩)) rfl (by kernel_rfl) (by kernel_rfl) (by kernel_rfl) (by kernel_rfl) (fun _ _ _ h => h) (Or.inl ⟨by rfl, fun w => by go_simp⟩) ?_
          simp only [Act.put, List.setIfInBounds_toArray, List.set_cons_zero, List.set_cons_succ]
          refine wpAnyU_takeB (i := 2) (v := .pointer (some ⟨w1.heap.size + 1, 0, none⟩)) rfl (by kernel_rfl) (by kernel_rfl) (by kernel_rfl) (by kernel_rfl) (fun _ _ _ h => h) (Or.inl ⟨by rfl, fun w => by go_simp⟩) ?_
          simp only [Act.put, List.setIfInBounds_toArray, List.set_cons_zero, List.set_cons_succ]
          refine wpAnyU_takeB (i := 3) (v := .pointer (some ⟨w1.heap.size + 1, 0, none⟩)) rfl (by kernel_rfl) (by kernel_rfl) (by kernel_rfl) (by kernel_rfl) (fun _ _ _ h => h) (Or.inl ⟨by rfl, fun w => by go_simp⟩) ?_
          simp only [Act.put, List.setIfInBounds_toArray, List.set_cons_zero, List.set_cons_succ]
          refine wpAnyU_takeB (i := 4) (v := .pointer (some ⟨w1.heap.size + 1, 2, none⟩)) rfl (by kernel_rfl) (by kernel_rfl) (by kernel_rfl) (by kernel_rfl) (fun _ _ _ h => h) (Or.inl ⟨by rfl, fun w => by go_simp⟩) ?_
          simp only [Act.put, List.setIfInBounds_toArray, List.set_cons_zero, List.set_cons_succ]
          refine wpAnyU_takeB (i := 6) (v := .int .i64 st) rfl (by kernel_rfl) (by kernel_rfl) (by kernel_rfl) (by kernel_rfl) (fun _ _ _ h => h) (Or.inl ⟨by rfl, fun w => by go_simp⟩) ?_
          simp only [Act.put, List.setIfInBounds_toArray, List.set_cons_zero, List.set_cons_succ]
          refine wpAnyU_takeB (i := 9) (v := .pointer (some ⟨w1.heap.size + 1, 0, none⟩)) rfl (by kernel_rfl) (by kernel_rfl) (by kernel_rfl) (by kernel_rfl) (fun _ _ _ h => h) (Or.inl ⟨by rfl, fun w => by go_simp⟩) ?_
          simp only [Act.put, List.setIfInBounds_toArray, List.set_cons_zero, List.set_cons_succ]
          refine wpAnyU_takeB (i := 10) (v := .pointer (some ⟨w1.heap.size + 1, 0, none⟩)) rfl (by kernel_rfl) (by kernel_rfl) (by kernel_rfl) (by kernel_rfl) (fun _ _ _ h => h) (Or.inl ⟨by rfl, fun w => by go_simp⟩) ?_
          simp only [Act.put, List.setIfInBounds_toArray, List.set_cons_zero, List.set_cons_succ]
          refine wpAnyU_takeB (i := 11) (v := .pointer (some ⟨w1.heap.size + 1, 1, none⟩)) rfl (by kernel_rfl) (by kernel_rfl) (by kernel_rfl) (by kernel_rfl) (fun _ _ _ h => h) (Or.inl ⟨by rfl, fun w => by go_simp⟩) ?_
          simp only [Act.put, List.setIfInBounds_toArray, List.set_cons_zero, List.set_cons_succ]
          refine wpAnyU_takeB (i := 13) (v := .int .i64 f') rfl (by kernel_rfl) (by kernel_rfl) (by kernel_rfl) (by kernel_rfl) (fun _ _ _ h => h) (Or.inl ⟨by rfl, fun w => by go_simp⟩) ?_
          simp only [Act.put, List.setIfInBounds_toArray, List.set_cons_zero, List.set_cons_succ]
          refine wpAnyU_take (i := 5) (v := .slice sa k sc) rfl (by kernel_rfl) (by kernel_rfl) (by kernel_rfl) (by kernel_rfl) (fun _ _ _ h => h) ⟨HM.out.c1, HM.out.c2⟩ (Or.inl ⟨by rfl, fun w hw => by obtain ⟨h1, h2⟩ := hw; go_simp⟩) ?_
          simp only [Act.put, List.setIfInBounds_toArray, List.set_cons_zero, List.set_cons_succ]
          refine wpAnyU_take (i := 12) (v := .slice oa (k + 1) oc) rfl (by kernel_rfl) (by kernel_rfl) (by kernel_rfl) (by kernel_rfl) (fun _ _ _ h => h) ⟨HM.out.c1, HM.out.c2⟩ (Or.inl ⟨by rfl, fun w hw => by obtain ⟨h1, h2⟩ := hw; go_simp⟩) ?_
          simp only [Act.put, List.setIfInBounds_toArray, List.set_cons_zero, List.set_cons_succ]
          -- (printed by wip/tools/gennew.py)
          refine wpAnyU_all (rs := [7, 14]) (by kernel_rfl) (by simp) (all2 ?_ ?_)
          · refine wpOpU_step rfl (fun K' hK => ?_)
            go_simp
            have HM1 := Lib.hid (HM.out.alloc hBc (.cells #[.int .i64 st] 3))
            have HP1 := Lib.hid (HM.out.pend st)
            have hB1 : w1.heap.size ≤ (wc.alloc (.cells #[.int .i64 st] 3)).heap.size := by simp; omega
            obtain ⟨g1, hg1⟩ : ∃ g, g = wc.heap.size := ⟨_, rfl⟩
            rw [← hg1] at HP1 ⊢
            generalize wc.alloc (.cells #[.int .i64 st] 3) = wx1 at HM1 HP1 hB1 ⊢
            refine hK _ _ ⟨HM1.out.c1, HM1.out.c2⟩ ?_
            clear hK K' hg1 HM hBc 
            refine wpAnyU_all (rs := [8, 14]) (by kernel_rfl) (by simp) (all2 ?_ ?_)
            · refine wpOpU_step rfl (fun K' hK => ?_)
              refine step_append_lies _ (by rfl) (.tmp 56) (.tmp 58) 66 (by rfl) w1.heap.size 3 i0 _ 1 8 Tryd.underlying66 hi0 hq0 hq1 hq2 rfl (by omega) (.slice sa k sc) k (ints ((sts first L).take k)) (by rfl) HM1.out.ox ⟨g1, 0, none⟩ 1 1 [.int .i64 st] (by rfl) (by rfl) (one_news HP1.out.c) (by simp [Value.oneCell']) (by omega) (by unfold maxLen; omega) (by omega) hB1 _ rfl ?_
              intro ga2 cap2 wx2 hown hgrow hat hlt2
              have HM2 := Lib.hid (HM1.out.appX hB1 hown hgrow hat)
              have hB2 : w1.heap.size ≤ wx2.heap.size := Nat.le_trans hB1 hgrow.size
              refine hK _ _ ⟨HM2.out.c1, HM2.out.c2⟩ ?_
              clear hK K' hown hgrow hat HM1 hB1 HP1
              simp only [Act.put, List.getElem_toArray, List.getElem_cons_succ, List.getElem_cons_zero, List.setIfInBounds_toArray, List.set_cons_zero, List.set_cons_succ]
              refine wpAnyU_all (rs := [14]) (by kernel_rfl) (by simp) (all1 ?_)
              refine wpOpU_step rfl (fun K' hK => ?_)
              go_simp
              have HM3 := Lib.hid (HM2.out.alloc hB2 (.cells #[.int .i64 f'] 3))
              have HP3 := Lib.hid (HM2.out.pend f')
              have hB3 : w1.heap.size ≤ (wx2.alloc (.cells #[.int .i64 f'] 3)).heap.size := by simp; omega
              obtain ⟨g3, hg3⟩ : ∃ g, g = wx2.heap.size := ⟨_, rfl⟩
              rw [← hg3] at HP3 ⊢
              generalize wx2.alloc (.cells #[.int .i64 f'] 3) = wx3 at HM3 HP3 hB3 ⊢
              refine hK _ _ ⟨HM3.out.c1, HM3.out.c2⟩ ?_
              clear hK K' hg3 HM2 hB2 
              refine wpAnyU_all (rs := [15]) (by kernel_rfl) (by simp) (all1 ?_)
              refine wpOpU_step rfl (fun K' hK => ?_)
              refine step_append_lies _ (by rfl) (.tmp 63) (.tmp 65) 66 (by rfl) w1.heap.size 3 i0 _ 1 8 Tryd.underlying66 hi0 hq0 hq1 hq2 rfl (by omega) (.slice oa (k + 1) oc) (k + 1) (ints ((offs first L).take (k + 1))) (by rfl) HM3.out.oy ⟨g3, 0, none⟩ 1 1 [.int .i64 f'] (by rfl) (by rfl) (one_news HP3.out.c) (by simp [Value.oneCell']) (by omega) (by unfold maxLen; omega) (by omega) hB3 _ rfl ?_
              intro ga4 cap4 wx4 hown hgrow hat hlt4
              have HM4 := Lib.hid (HM3.out.appY hB3 hown hgrow hat)
              have hB4 : w1.heap.size ≤ wx4.heap.size := Nat.le_trans hB3 hgrow.size
              refine hK _ _ ⟨HM4.out.c1, HM4.out.c2⟩ ?_
              clear hK K' hown hgrow hat HM3 hB3 HP3
              simp only [Act.put, List.getElem_toArray, List.getElem_cons_succ, List.getElem_cons_zero, List.setIfInBounds_toArray, List.set_cons_zero, List.set_cons_succ]
              refine wpAnyU_takeB (i := 16) (v := .pointer (some ⟨w1.heap.size + 1, 0, none⟩)) rfl (by kernel_rfl) (by kernel_rfl) (by kernel_rfl) (by kernel_rfl) (fun _ _ _ h => h) (Or.inl ⟨by rfl, fun w => by go_simp⟩) ?_
              simp only [Act.put, List.getElem_toArray, List.getElem_cons_succ, List.getElem_cons_zero, List.setIfInBounds_toArray, List.set_cons_zero, List.set_cons_succ]
              refine wpAnyU_takeB (i := 17) (v := .pointer (some ⟨w1.heap.size + 1, 2, none⟩)) rfl (by kernel_rfl) (by kernel_rfl) (by kernel_rfl) (by kernel_rfl) (fun _ _ _ h => h) (Or.inl ⟨by rfl, fun w => by go_simp⟩) ?_
              simp only [Act.put, List.getElem_toArray, List.getElem_cons_succ, List.getElem_cons_zero, List.setIfInBounds_toArray, List.set_cons_zero, List.set_cons_succ]
              have q1 := HM4.out.c1
              have q2 := HM4.out.c2
              have q3 := HM4.out.fz
              refine wpAnyU_all (rs := [18]) (by kernel_rfl) (by simp) (all1 ?_)
              refine wpOpU_stepB rfl (by kernel_rfl) (fun K' hK => ?_)
              go_simp
              refine hK _ _ ?_
              clear hK K'
              refine wpAnyU_takeB (i := 19) (v := .pointer (some ⟨w1.heap.size + 1, 0, none⟩)) rfl (by kernel_rfl) (by kernel_rfl) (by kernel_rfl) (by kernel_rfl) (fun _ _ _ h => h) (Or.inl ⟨by rfl, fun w => by go_simp⟩) ?_
              simp only [Act.put, List.getElem_toArray, List.getElem_cons_succ, List.getElem_cons_zero, List.setIfInBounds_toArray, List.set_cons_zero, List.set_cons_succ]
              refine wpAnyU_takeB (i := 20) (v := .pointer (some ⟨w1.heap.size + 1, 1, none⟩)) rfl (by kernel_rfl) (by kernel_rfl) (by kernel_rfl) (by kernel_rfl) (fun _ _ _ h => h) (Or.inl ⟨by rfl, fun w => by go_simp⟩) ?_
              simp only [Act.put, List.getElem_toArray, List.getElem_cons_succ, List.getElem_cons_zero, List.setIfInBounds_toArray, List.set_cons_zero, List.set_cons_succ]
              refine wpAnyU_all (rs := [21]) (by kernel_rfl) (by simp) (all1 ?_)
              refine wpOpU_stepB rfl (by kernel_rfl) (fun K' hK => ?_)
              go_simp
              refine hK _ _ ?_
              clear hK K'
              refine wpAnyU_done (by kernel_rfl) ?_ _
              have HN := Lib.hid (newAt_of HM4.out (by omega) hlt HOF.out.symm HST.out.symm)
              clear q1 q2 q3 HM4 hB4
              generalize (wx4.setCell ⟨w1.heap.size + 1, 2, none⟩ (.slice (some ⟨ga2, 0, none⟩) (k + 1) cap2)).setCell ⟨w1.heap.size + 1, 1, none⟩ (.slice (some ⟨ga4, 0, none⟩) (k + 1 + 1) cap4) = wz at HN ⊢
              clear HST HON HOS HNE HBL hn hbw
              go_wp2_with fail
              go_roundw
              case rel => exact ⟨k + 1, by omega, by go_num, congrArg _ HOF.out.symm, HN, rightAll HRA.out hr.out⟩
              case measure => simp [intOf]; omega
            · refine wpOpU_step rfl (fun K' hK => ?_)
              go_simp
              have HM2 := Lib.hid (HM1.out.alloc hB1 (.cells #[.int .i64 f'] 3))
              have HP2 := Lib.hid (HM1.out.pend f')
              have HPo2 := Lib.hid (HP1.out.alloc (.cells #[.int .i64 f'] 3))
              have hB2 : w1.heap.size ≤ (wx1.alloc (.cells #[.int .i64 f'] 3)).heap.size := by simp; omega
              obtain ⟨g2, hg2⟩ : ∃ g, g = wx1.heap.size := ⟨_, rfl⟩
              rw [← hg2] at HP2 ⊢
              generalize wx1.alloc (.cells #[.int .i64 f'] 3) = wx2 at HM2 HP2 hB2 HPo2 ⊢
              refine hK _ _ ⟨HM2.out.c1, HM2.out.c2⟩ ?_
              clear hK K' hg2 HM1 hB1 HP1
              refine wpAnyU_all (rs := [8]) (by kernel_rfl) (by simp) (all1 ?_)
              refine wpOpU_step rfl (fun K' hK => ?_)
              refine step_append_lies _ (by rfl) (.tmp 56) (.tmp 58) 66 (by rfl) w1.heap.size 3 i0 _ 1 8 Tryd.underlying66 hi0 hq0 hq1 hq2 rfl (by omega) (.slice sa k sc) k (ints ((sts first L).take k)) (by rfl) HM2.out.ox ⟨g1, 0, none⟩ 1 1 [.int .i64 st] (by rfl) (by rfl) (one_news HPo2.out.c) (by simp [Value.oneCell']) (by omega) (by unfold maxLen; omega) (by omega) hB2 _ rfl ?_
              intro ga3 cap3 wx3 hown hgrow hat hlt3
              have HM3 := Lib.hid (HM2.out.appX hB2 hown hgrow hat)
              have HPo3 := Lib.hid (HP2.out.appX (m := k + 1) (cap := cap3) hgrow hat)
              have hB3 : w1.heap.size ≤ wx3.heap.size := Nat.le_trans hB2 hgrow.size
              refine hK _ _ ⟨HM3.out.c1, HM3.out.c2⟩ ?_
              clear hK K' hown hgrow hat HM2 hB2 HPo2 HP2
              simp only [Act.put, List.getElem_toArray, List.getElem_cons_succ, List.getElem_cons_zero, List.setIfInBounds_toArray, List.set_cons_zero, List.set_cons_succ]
              refine wpAnyU_all (rs := [15]) (by kernel_rfl) (by simp) (all1 ?_)
              refine wpOpU_step rfl (fun K' hK => ?_)
              refine step_append_lies _ (by rfl) (.tmp 63) (.tmp 65) 66 (by rfl) w1.heap.size 3 i0 _ 1 8 Tryd.underlying66 hi0 hq0 hq1 hq2 rfl (by omega) (.slice oa (k + 1) oc) (k + 1) (ints ((offs first L).take (k + 1))) (by rfl) HM3.out.oy ⟨g2, 0, none⟩ 1 1 [.int .i64 f'] (by rfl) (by rfl) (one_news HPo3.out.c) (by simp [Value.oneCell']) (by omega) (by unfold maxLen; omega) (by omega) hB3 _ rfl ?_
              intro ga4 cap4 wx4 hown hgrow hat hlt4
              have HM4 := Lib.hid (HM3.out.appY hB3 hown hgrow hat)
              have hB4 : w1.heap.size ≤ wx4.heap.size := Nat.le_trans hB3 hgrow.size
              refine hK _ _ ⟨HM4.out.c1, HM4.out.c2⟩ ?_
              clear hK K' hown hgrow hat HM3 hB3 HPo3
              simp only [Act.put, List.getElem_toArray, List.getElem_cons_succ, List.getElem_cons_zero, List.setIfInBounds_toArray, List.set_cons_zero, List.set_cons_succ]
              refine wpAnyU_takeB (i := 16) (v := .pointer (some ⟨w1.heap.size + 1, 0, none⟩)) rfl (by kernel_rfl) (by kernel_rfl) (by kernel_rfl) (by kernel_rfl) (fun _ _ _ h => h) (Or.inl ⟨by rfl, fun w => by go_simp⟩) ?_
              simp only [Act.put, List.getElem_toArray, List.getElem_cons_succ, List.getElem_cons_zero, List.setIfInBounds_toArray, List.set_cons_zero, List.set_cons_succ]
              refine wpAnyU_takeB (i := 17) (v := .pointer (some ⟨w1.heap.size + 1, 2, none⟩)) rfl (by kernel_rfl) (by kernel_rfl) (by kernel_rfl) (by kernel_rfl) (fun _ _ _ h => h) (Or.inl ⟨by rfl, fun w => by go_simp⟩) ?_
              simp only [Act.put, List.getElem_toArray, List.getElem_cons_succ, List.getElem_cons_zero, List.setIfInBounds_toArray, List.set_cons_zero, List.set_cons_succ]
              have q1 := HM4.out.c1
              have q2 := HM4.out.c2
              have q3 := HM4.out.fz
              refine wpAnyU_all (rs := [18]) (by kernel_rfl) (by simp) (all1 ?_)
              refine wpOpU_stepB rfl (by kernel_rfl) (fun K' hK => ?_)
              go_simp
              refine hK _ _ ?_
              clear hK K'
              refine wpAnyU_takeB (i := 19) (v := .pointer (some ⟨w1.heap.size + 1, 0, none⟩)) rfl (by kernel_rfl) (by kernel_rfl) (by kernel_rfl) (by kernel_rfl) (fun _ _ _ h => h) (Or.inl ⟨by rfl, fun w => by go_simp⟩) ?_
              simp only [Act.put, List.getElem_toArray, List.getElem_cons_succ, List.getElem_cons_zero, List.setIfInBounds_toArray, List.set_cons_zero, List.set_cons_succ]
              refine wpAnyU_takeB (i := 20) (v := .pointer (some ⟨w1.heap.size + 1, 1, none⟩)) rfl (by kernel_rfl) (by kernel_rfl) (by kernel_rfl) (by kernel_rfl) (fun _ _ _ h => h) (Or.inl ⟨by rfl, fun w => by go_simp⟩) ?_
              simp only [Act.put, List.getElem_toArray, List.getElem_cons_succ, List.getElem_cons_zero, List.setIfInBounds_toArray, List.set_cons_zero, List.set_cons_succ]
              refine wpAnyU_all (rs := [21]) (by kernel_rfl) (by simp) (all1 ?_)
              refine wpOpU_stepB rfl (by kernel_rfl) (fun K' hK => ?_)
              go_simp
              refine hK _ _ ?_
              clear hK K'
              refine wpAnyU_done (by kernel_rfl) ?_ _
              have HN := Lib.hid (newAt_of HM4.out (by omega) hlt HOF.out.symm HST.out.symm)
              clear q1 q2 q3 HM4 hB4
              generalize (wx4.setCell ⟨w1.heap.size + 1, 2, none⟩ (.slice (some ⟨ga3, 0, none⟩) (k + 1) cap3)).setCell ⟨w1.heap.size + 1, 1, none⟩ (.slice (some ⟨ga4, 0, none⟩) (k + 1 + 1) cap4) = wz at HN ⊢
              clear HST HON HOS HNE HBL hn hbw
              go_wp2_with fail
              go_roundw
              case rel => exact ⟨k + 1, by omega, by go_num, congrArg _ HOF.out.symm, HN, rightAll HRA.out hr.out⟩
              case measure => simp [intOf]; omega
          · refine wpOpU_step rfl (fun K' hK => ?_)
            go_simp
            have HM1 := Lib.hid (HM.out.alloc hBc (.cells #[.int .i64 f'] 3))
            have HP1 := Lib.hid (HM.out.pend f')
            have hB1 : w1.heap.size ≤ (wc.alloc (.cells #[.int .i64 f'] 3)).heap.size := by simp; omega
            obtain ⟨g1, hg1⟩ : ∃ g, g = wc.heap.size := ⟨_, rfl⟩
            rw [← hg1] at HP1 ⊢
            generalize wc.alloc (.cells #[.int .i64 f'] 3) = wx1 at HM1 HP1 hB1 ⊢
            refine hK _ _ ⟨HM1.out.c1, HM1.out.c2⟩ ?_
            clear hK K' hg1 HM hBc 
            refine wpAnyU_all (rs := [7]) (by kernel_rfl) (by simp) (all1 ?_)
            refine wpOpU_step rfl (fun K' hK => ?_)
            go_simp
            have HM2 := Lib.hid (HM1.out.alloc hB1 (.cells #[.int .i64 st] 3))
            have HP2 := Lib.hid (HM1.out.pend st)
            have HPo2 := Lib.hid (HP1.out.alloc (.cells #[.int .i64 st] 3))
            have hB2 : w1.heap.size ≤ (wx1.alloc (.cells #[.int .i64 st] 3)).heap.size := by simp; omega
            obtain ⟨g2, hg2⟩ : ∃ g, g = wx1.heap.size := ⟨_, rfl⟩
            rw [← hg2] at HP2 ⊢
            generalize wx1.alloc (.cells #[.int .i64 st] 3) = wx2 at HM2 HP2 hB2 HPo2 ⊢
            refine hK _ _ ⟨HM2.out.c1, HM2.out.c2⟩ ?_
            clear hK K' hg2 HM1 hB1 HP1
            refine wpAnyU_all (rs := [8]) (by kernel_rfl) (by simp) (all1 ?_)
            refine wpOpU_step rfl (fun K' hK => ?_)
            refine step_append_lies _ (by rfl) (.tmp 56) (.tmp 58) 66 (by rfl) w1.heap.size 3 i0 _ 1 8 Tryd.underlying66 hi0 hq0 hq1 hq2 rfl (by omega) (.slice sa k sc) k (ints ((sts first L).take k)) (by rfl) HM2.out.ox ⟨g2, 0, none⟩ 1 1 [.int .i64 st] (by rfl) (by rfl) (one_news HP2.out.c) (by simp [Value.oneCell']) (by omega) (by unfold maxLen; omega) (by omega) hB2 _ rfl ?_
            intro ga3 cap3 wx3 hown hgrow hat hlt3
            have HM3 := Lib.hid (HM2.out.appX hB2 hown hgrow hat)
            have HPo3 := Lib.hid (HPo2.out.appX (m := k + 1) (cap := cap3) hgrow hat)
            have hB3 : w1.heap.size ≤ wx3.heap.size := Nat.le_trans hB2 hgrow.size
            refine hK _ _ ⟨HM3.out.c1, HM3.out.c2⟩ ?_
            clear hK K' hown hgrow hat HM2 hB2 HP2 HPo2
            simp only [Act.put, List.getElem_toArray, List.getElem_cons_succ, List.getElem_cons_zero, List.setIfInBounds_toArray, List.set_cons_zero, List.set_cons_succ]
            refine wpAnyU_all (rs := [15]) (by kernel_rfl) (by simp) (all1 ?_)
            refine wpOpU_step rfl (fun K' hK => ?_)
            refine step_append_lies _ (by rfl) (.tmp 63) (.tmp 65) 66 (by rfl) w1.heap.size 3 i0 _ 1 8 Tryd.underlying66 hi0 hq0 hq1 hq2 rfl (by omega) (.slice oa (k + 1) oc) (k + 1) (ints ((offs first L).take (k + 1))) (by rfl) HM3.out.oy ⟨g1, 0, none⟩ 1 1 [.int .i64 f'] (by rfl) (by rfl) (one_news HPo3.out.c) (by simp [Value.oneCell']) (by omega) (by unfold maxLen; omega) (by omega) hB3 _ rfl ?_
            intro ga4 cap4 wx4 hown hgrow hat hlt4
            have HM4 := Lib.hid (HM3.out.appY hB3 hown hgrow hat)
            have hB4 : w1.heap.size ≤ wx4.heap.size := Nat.le_trans hB3 hgrow.size
            refine hK _ _ ⟨HM4.out.c1, HM4.out.c2⟩ ?_
            clear hK K' hown hgrow hat HM3 hB3 HPo3
            simp only [Act.put, List.getElem_toArray, List.getElem_cons_succ, List.getElem_cons_zero, List.setIfInBounds_toArray, List.set_cons_zero, List.set_cons_succ]
            refine wpAnyU_takeB (i := 16) (v := .pointer (some ⟨w1.heap.size + 1, 0, none⟩)) rfl (by kernel_rfl) (by kernel_rfl) (by kernel_rfl) (by kernel_rfl) (fun _ _ _ h => h) (Or.inl ⟨by rfl, fun w => by go_simp⟩) ?_
            simp only [Act.put, List.getElem_toArray, List.getElem_cons_succ, List.getElem_cons_zero, List.setIfInBounds_toArray, List.set_cons_zero, List.set_cons_succ]
            refine wpAnyU_takeB (i := 17) (v := .pointer (some ⟨w1.heap.size + 1, 2, none⟩)) rfl (by kernel_rfl) (by kernel_rfl) (by kernel_rfl) (by kernel_rfl) (fun _ _ _ h => h) (Or.inl ⟨by rfl, fun w => by go_simp⟩) ?_
            simp only [Act.put, List.getElem_toArray, List.getElem_cons_succ, List.getElem_cons_zero, List.setIfInBounds_toArray, List.set_cons_zero, List.set_cons_succ]
            have q1 := HM4.out.c1
            have q2 := HM4.out.c2
            have q3 := HM4.out.fz
            refine wpAnyU_all (rs := [18]) (by kernel_rfl) (by simp) (all1 ?_)
            refine wpOpU_stepB rfl (by kernel_rfl) (fun K' hK => ?_)
            go_simp
            refine hK _ _ ?_
            clear hK K'
            refine wpAnyU_takeB (i := 19) (v := .pointer (some ⟨w1.heap.size + 1, 0, none⟩)) rfl (by kernel_rfl) (by kernel_rfl) (by kernel_rfl) (by kernel_rfl) (fun _ _ _ h => h) (Or.inl ⟨by rfl, fun w => by go_simp⟩) ?_
            simp only [Act.put, List.getElem_toArray, List.getElem_cons_succ, List.getElem_cons_zero, List.setIfInBounds_toArray, List.set_cons_zero, List.set_cons_succ]
            refine wpAnyU_takeB (i := 20) (v := .pointer (some ⟨w1.heap.size + 1, 1, none⟩)) rfl (by kernel_rfl) (by kernel_rfl) (by kernel_rfl) (by kernel_rfl) (fun _ _ _ h => h) (Or.inl ⟨by rfl, fun w => by go_simp⟩) ?_
            simp only [Act.put, List.getElem_toArray, List.getElem_cons_succ, List.getElem_cons_zero, List.setIfInBounds_toArray, List.set_cons_zero, List.set_cons_succ]
            refine wpAnyU_all (rs := [21]) (by kernel_rfl) (by simp) (all1 ?_)
            refine wpOpU_stepB rfl (by kernel_rfl) (fun K' hK => ?_)
            go_simp
            refine hK _ _ ?_
            clear hK K'
            refine wpAnyU_done (by kernel_rfl) ?_ _
            have HN := Lib.hid (newAt_of HM4.out (by omega) hlt HOF.out.symm HST.out.symm)
            clear q1 q2 q3 HM4 hB4
            generalize (wx4.setCell ⟨w1.heap.size + 1, 2, none⟩ (.slice (some ⟨ga3, 0, none⟩) (k + 1) cap3)).setCell ⟨w1.heap.size + 1, 1, none⟩ (.slice (some ⟨ga4, 0, none⟩) (k + 1 + 1) cap4) = wz at HN ⊢
            clear HST HON HOS HNE HBL hn hbw
            go_wp2_with fail
            go_roundw
            case rel => exact ⟨k + 1, by omega, by go_num, congrArg _ HOF.out.symm, HN, rightAll HRA.out hr.out⟩
            case measure => simp [intOf]; omega
        · have HOF := Lib.hid hof
          have HST := Lib.hid (hst.trans (show startOf f (x, -1) = (x + 1) * 86400 + f - 1 from by simp [startOf]))
          clear hof hst
          go_wp2_with fail
          generalize (x + 1) * 86400 + f - 1 = st at HST ⊢
          generalize f + -1 = f' at HOF ⊢
          refine wp_region_until (S := fun w' => w'.cell? ⟨w1.heap.size + 1, 1, none⟩ = some (.slice oa (k + 1) oc) ∧ w'.cell? ⟨w1.heap.size + 1, 2, none⟩ = some (.slice sa k sc)) (B := [0, 1, 2, 3, 4, 6, 9, 10, 11, 13, 16, 17, 18, 19, 20, 21]) (by kernel_rfl) ?_
          rw [← hwc]
          clear hwc m0 m1 m2 mf HS4 HO4
          refine wpAnyU_takeB (i := 0) (v := .pointer (some ⟨w1.heap.size + 1, 0, none⟩)) rfl (by kernel_rfl) (by kernel_rfl) (by kernel_rfl) (by kernel_rfl) (fun _ _ _ h => h) (Or.inl ⟨by rfl, fun w => by go_simp⟩) ?_
          simp only [Act.put, List.setIfInBounds_toArray, List.set_cons_zero, List.set_cons_succ]
          refine wpAnyU_takeB (i := 1) (v := .pointer (some ⟨w1.heap.size + 1, 0, none⟩)) rfl (by kernel_rfl) (by kernel_rfl) (by kernel_rfl) (by kernel_rfl) (fun _ _ _ h => h) (Or.inl ⟨by rfl, fun w => by go_simp⟩) ?_
          simp only [Act.put, List.setIfInBounds_toArray, List.set_cons_zero, List.set_cons_succ]
          refine wpAnyU_takeB (i := 2) (v := .pointer (some ⟨w1.heap.size + 1, 0, none⟩)) rfl (by kernel_rfl) (by kernel_rfl) (by kernel_rfl) (by kernel_rfl) (fun _ _ _ h => h) (Or.inl ⟨by rfl, fun w => by go_simp⟩) ?_
          simp only [Act.put, List.setIfInBounds_toArray, List.set_cons_zero, List.set_cons_succ]
          refine wpAnyU_takeB (i := 3) (v := .pointer (some ⟨w1.heap.size + 1, 0, none⟩)) rfl (by kernel_rfl) (by kernel_rfl) (by kernel_rfl) (by kernel_rfl) (fun _ _ _ h => h) (Or.inl ⟨by rfl, fun w => by go_simp⟩) ?_
          simp only [Act.put, List.setIfInBounds_toArray, List.set_cons_zero, List.set_cons_succ]
          refine wpAnyU_takeB (i := 4) (v := .pointer (some ⟨w1.heap.size + 1, 2, none⟩)) rfl (by kernel_rfl) (by kernel_rfl) (by kernel_rfl) (by kernel_rfl) (fun _ _ _ h => h) (Or.inl ⟨by rfl, fun w => by go_simp⟩) ?_
          simp only [Act.put, List.setIfInBounds_toArray, List.set_cons_zero, List.set_cons_succ]
          refine wpAnyU_takeB (i := 6) (v := .int .i64 st) rfl (by kernel_rfl) (by kernel_rfl) (by kernel_rfl) (by kernel_rfl) (fun _ _ _ h => h) (Or.inl ⟨by rfl, fun w => by go_simp⟩) ?_
          simp only [Act.put, List.setIfInBounds_toArray, List.set_cons_zero, List.set_cons_succ]
          refine wpAnyU_takeB (i := 9) (v := .pointer (some ⟨w1.heap.size + 1, 0, none⟩)) rfl (by kernel_rfl) (by kernel_rfl) (by kernel_rfl) (by kernel_rfl) (fun _ _ _ h => h) (Or.inl ⟨by rfl, fun w => by go_simp⟩) ?_
          simp only [Act.put, List.setIfInBounds_toArray, List.set_cons_zero, List.set_cons_succ]
          refine wpAnyU_takeB (i := 10) (v := .pointer (some ⟨w1.heap.size + 1, 0, none⟩)) rfl (by kernel_rfl) (by kernel_rfl) (by kernel_rfl) (by kernel_rfl) (fun _ _ _ h => h) (Or.inl ⟨by rfl, fun w => by go_simp⟩) ?_
          simp only [Act.put, List.setIfInBounds_toArray, List.set_cons_zero, List.set_cons_succ]
          refine wpAnyU_takeB (i := 11) (v := .pointer (some ⟨w1.heap.size + 1, 1, none⟩)) rfl (by kernel_rfl) (by kernel_rfl) (by kernel_rfl) (by kernel_rfl) (fun _ _ _ h => h) (Or.inl ⟨by rfl, fun w => by go_simp⟩) ?_
          simp only [Act.put, List.setIfInBounds_toArray, List.set_cons_zero, List.set_cons_succ]
          refine wpAnyU_takeB (i := 13) (v := .int .i64 f') rfl (by kernel_rfl) (by kernel_rfl) (by kernel_rfl) (by kernel_rfl) (fun _ _ _ h => h) (Or.inl ⟨by rfl, fun w => by go_simp⟩) ?_
          simp only [Act.put, List.setIfInBounds_toArray, List.set_cons_zero, List.set_cons_succ]
          refine wpAnyU_take (i := 5) (v := .slice sa k sc) rfl (by kernel_rfl) (by kernel_rfl) (by kernel_rfl) (by kernel_rfl) (fun _ _ _ h => h) ⟨HM.out.c1, HM.out.c2⟩ (Or.inl ⟨by rfl, fun w hw => by obtain ⟨h1, h2⟩ := hw; go_simp⟩) ?_
          simp only [Act.put, List.setIfInBounds_toArray, List.set_cons_zero, List.set_cons_succ]
          refine wpAnyU_take (i := 12) (v := .slice oa (k + 1) oc) rfl (by kernel_rfl) (by kernel_rfl) (by kernel_rfl) (by kernel_rfl) (fun _ _ _ h => h) ⟨HM.out.c1, HM.out.c2⟩ (Or.inl ⟨by rfl, fun w hw => by obtain ⟨h1, h2⟩ := hw; go_simp⟩) ?_
          simp only [Act.put, List.setIfInBounds_toArray, List.set_cons_zero, List.set_cons_succ]
          -- (printed by wip/tools/gennew.py)
          refine wpAnyU_all (rs := [7, 14]) (by kernel_rfl) (by simp) (all2 ?_ ?_)
          · refine wpOpU_step rfl (fun K' hK => ?_)
            go_simp
            have HM1 := Lib.hid (HM.out.alloc hBc (.cells #[.int .i64 st] 3))
            have HP1 := Lib.hid (HM.out.pend st)
            have hB1 : w1.heap.size ≤ (wc.alloc (.cells #[.int .i64 st] 3)).heap.size := by simp; omega
            obtain ⟨g1, hg1⟩ : ∃ g, g = wc.heap.size := ⟨_, rfl⟩
            rw [← hg1] at HP1 ⊢
            generalize wc.alloc (.cells #[.int .i64 st] 3) = wx1 at HM1 HP1 hB1 ⊢
            refine hK _ _ ⟨HM1.out.c1, HM1.out.c2⟩ ?_
            clear hK K' hg1 HM hBc 
            refine wpAnyU_all (rs := [8, 14]) (by kernel_rfl) (by simp) (all2 ?_ ?_)
            · refine wpOpU_step rfl (fun K' hK => ?_)
              refine step_append_lies _ (by rfl) (.tmp 56) (.tmp 58) 66 (by rfl) w1.heap.size 3 i0 _ 1 8 Tryd.underlying66 hi0 hq0 hq1 hq2 rfl (by omega) (.slice sa k sc) k (ints ((sts first L).take k)) (by rfl) HM1.out.ox ⟨g1, 0, none⟩ 1 1 [.int .i64 st] (by rfl) (by rfl) (one_news HP1.out.c) (by simp [Value.oneCell']) (by omega) (by unfold maxLen; omega) (by omega) hB1 _ rfl ?_
              intro ga2 cap2 wx2 hown hgrow hat hlt2
              have HM2 := Lib.hid (HM1.out.appX hB1 hown hgrow hat)
              have hB2 : w1.heap.size ≤ wx2.heap.size := Nat.le_trans hB1 hgrow.size
              refine hK _ _ ⟨HM2.out.c1, HM2.out.c2⟩ ?_
              clear hK K' hown hgrow hat HM1 hB1 HP1
              simp only [Act.put, List.getElem_toArray, List.getElem_cons_succ, List.getElem_cons_zero, List.setIfInBounds_toArray, List.set_cons_zero, List.set_cons_succ]
              refine wpAnyU_all (rs := [14]) (by kernel_rfl) (by simp) (all1 ?_)
              refine wpOpU_step rfl (fun K' hK => ?_)
              go_simp
              have HM3 := Lib.hid (HM2.out.alloc hB2 (.cells #[.int .i64 f'] 3))
              have HP3 := Lib.hid (HM2.out.pend f')
              have hB3 : w1.heap.size ≤ (wx2.alloc (.cells #[.int .i64 f'] 3)).heap.size := by simp; omega
              obtain ⟨g3, hg3⟩ : ∃ g, g = wx2.heap.size := ⟨_, rfl⟩
              rw [← hg3] at HP3 ⊢
              generalize wx2.alloc (.cells #[.int .i64 f'] 3) = wx3 at HM3 HP3 hB3 ⊢
              refine hK _ _ ⟨HM3.out.c1, HM3.out.c2⟩ ?_
              clear hK K' hg3 HM2 hB2 
              refine wpAnyU_all (rs := [15]) (by kernel_rfl) (by simp) (all1 ?_)
              refine wpOpU_step rfl (fun K' hK => ?_)
              refine step_append_lies _ (by rfl) (.tmp 63) (.tmp 65) 66 (by rfl) w1.heap.size 3 i0 _ 1 8 Tryd.underlying66 hi0 hq0 hq1 hq2 rfl (by omega) (.slice oa (k + 1) oc) (k + 1) (ints ((offs first L).take (k + 1))) (by rfl) HM3.out.oy ⟨g3, 0, none⟩ 1 1 [.int .i64 f'] (by rfl) (by rfl) (one_news HP3.out.c) (by simp [Value.oneCell']) (by omega) (by unfold maxLen; omega) (by omega) hB3 _ rfl ?_
              intro ga4 cap4 wx4 hown hgrow hat hlt4
              have HM4 := Lib.hid (HM3.out.appY hB3 hown hgrow hat)
              have hB4 : w1.heap.size ≤ wx4.heap.size := Nat.le_trans hB3 hgrow.size
              refine hK _ _ ⟨HM4.out.c1, HM4.out.c2⟩ ?_
              clear hK K' hown hgrow hat HM3 hB3 HP3
              simp only [Act.put, List.getElem_toArray, List.getElem_cons_succ, List.getElem_cons_zero, List.setIfInBounds_toArray, List.set_cons_zero, List.set_cons_succ]
              refine wpAnyU_takeB (i := 16) (v := .pointer (some ⟨w1.heap.size + 1, 0, none⟩)) rfl (by kernel_rfl) (by kernel_rfl) (by kernel_rfl) (by kernel_rfl) (fun _ _ _ h => h) (Or.inl ⟨by rfl, fun w => by go_simp⟩) ?_
              simp only [Act.put, List.getElem_toArray, List.getElem_cons_succ, List.getElem_cons_zero, List.setIfInBounds_toArray, List.set_cons_zero, List.set_cons_succ]
              refine wpAnyU_takeB (i := 17) (v := .pointer (some ⟨w1.heap.size + 1, 2, none⟩)) rfl (by kernel_rfl) (by kernel_rfl) (by kernel_rfl) (by kernel_rfl) (fun _ _ _ h => h) (Or.inl ⟨by rfl, fun w => by go_simp⟩) ?_
              simp only [Act.put, List.getElem_toArray, List.getElem_cons_succ, List.getElem_cons_zero, List.setIfInBounds_toArray, List.set_cons_zero, List.set_cons_succ]
              have q1 := HM4.out.c1
              have q2 := HM4.out.c2
              have q3 := HM4.out.fz
              refine wpAnyU_all (rs := [18]) (by kernel_rfl) (by simp) (all1 ?_)
              refine wpOpU_stepB rfl (by kernel_rfl) (fun K' hK => ?_)
              go_simp
              refine hK _ _ ?_
              clear hK K'
              refine wpAnyU_takeB (i := 19) (v := .pointer (some ⟨w1.heap.size + 1, 0, none⟩)) rfl (by kernel_rfl) (by kernel_rfl) (by kernel_rfl) (by kernel_rfl) (fun _ _ _ h => h) (Or.inl ⟨by rfl, fun w => by go_simp⟩) ?_
              simp only [Act.put, List.getElem_toArray, List.getElem_cons_succ, List.getElem_cons_zero, List.setIfInBounds_toArray, List.set_cons_zero, List.set_cons_succ]
              refine wpAnyU_takeB (i := 20) (v := .pointer (some ⟨w1.heap.size + 1, 1, none⟩)) rfl (by kernel_rfl) (by kernel_rfl) (by kernel_rfl) (by kernel_rfl) (fun _ _ _ h => h) (Or.inl ⟨by rfl, fun w => by go_simp⟩) ?_
              simp only [Act.put, List.getElem_toArray, List.getElem_cons_succ, List.getElem_cons_zero, List.setIfInBounds_toArray, List.set_cons_zero, List.set_cons_succ]
              refine wpAnyU_all (rs := [21]) (by kernel_rfl) (by simp) (all1 ?_)
              refine wpOpU_stepB rfl (by kernel_rfl) (fun K' hK => ?_)
              go_simp
              refine hK _ _ ?_
              clear hK K'
              refine wpAnyU_done (by kernel_rfl) ?_ _
              have HN := Lib.hid (newAt_of HM4.out (by omega) hlt HOF.out.symm HST.out.symm)
              clear q1 q2 q3 HM4 hB4
              generalize (wx4.setCell ⟨w1.heap.size + 1, 2, none⟩ (.slice (some ⟨ga2, 0, none⟩) (k + 1) cap2)).setCell ⟨w1.heap.size + 1, 1, none⟩ (.slice (some ⟨ga4, 0, none⟩) (k + 1 + 1) cap4) = wz at HN ⊢
              clear HST HON HOS HNE HBL hn hbw
              go_wp2_with fail
              go_roundw
              case rel => exact ⟨k + 1, by omega, by go_num, congrArg _ HOF.out.symm, HN, rightAll HRA.out hr.out⟩
              case measure => simp [intOf]; omega
            · refine wpOpU_step rfl (fun K' hK => ?_)
              go_simp
              have HM2 := Lib.hid (HM1.out.alloc hB1 (.cells #[.int .i64 f'] 3))
              have HP2 := Lib.hid (HM1.out.pend f')
              have HPo2 := Lib.hid (HP1.out.alloc (.cells #[.int .i64 f'] 3))
              have hB2 : w1.heap.size ≤ (wx1.alloc (.cells #[.int .i64 f'] 3)).heap.size := by simp; omega
              obtain ⟨g2, hg2⟩ : ∃ g, g = wx1.heap.size := ⟨_, rfl⟩
              rw [← hg2] at HP2 ⊢
              generalize wx1.alloc (.cells #[.int .i64 f'] 3) = wx2 at HM2 HP2 hB2 HPo2 ⊢
              refine hK _ _ ⟨HM2.out.c1, HM2.out.c2⟩ ?_
              clear hK K' hg2 HM1 hB1 HP1
              refine wpAnyU_all (rs := [8]) (by kernel_rfl) (by simp) (all1 ?_)
              refine wpOpU_step rfl (fun K' hK => ?_)
              refine step_append_lies _ (by rfl) (.tmp 56) (.tmp 58) 66 (by rfl) w1.heap.size 3 i0 _ 1 8 Tryd.underlying66 hi0 hq0 hq1 hq2 rfl (by omega) (.slice sa k sc) k (ints ((sts first L).take k)) (by rfl) HM2.out.ox ⟨g1, 0, none⟩ 1 1 [.int .i64 st] (by rfl) (by rfl) (one_news HPo2.out.c) (by simp [Value.oneCell']) (by omega) (by unfold maxLen; omega) (by omega) hB2 _ rfl ?_
              intro ga3 cap3 wx3 hown hgrow hat hlt3
              have HM3 := Lib.hid (HM2.out.appX hB2 hown hgrow hat)
              have HPo3 := Lib.hid (HP2.out.appX (m := k + 1) (cap := cap3) hgrow hat)
              have hB3 : w1.heap.size ≤ wx3.heap.size := Nat.le_trans hB2 hgrow.size
              refine hK _ _ ⟨HM3.out.c1, HM3.out.c2⟩ ?_
              clear hK K' hown hgrow hat HM2 hB2 HPo2 HP2
              simp only [Act.put, List.getElem_toArray, List.getElem_cons_succ, List.getElem_cons_zero, List.setIfInBounds_toArray, List.set_cons_zero, List.set_cons_succ]
              refine wpAnyU_all (rs := [15]) (by kernel_rfl) (by simp) (all1 ?_)
              refine wpOpU_step rfl (fun K' hK => ?_)
              refine step_append_lies _ (by rfl) (.tmp 63) (.tmp 65) 66 (by rfl) w1.heap.size 3 i0 _ 1 8 Tryd.underlying66 hi0 hq0 hq1 hq2 rfl (by omega) (.slice oa (k + 1) oc) (k + 1) (ints ((offs first L).take (k + 1))) (by rfl) HM3.out.oy ⟨g2, 0, none⟩ 1 1 [.int .i64 f'] (by rfl) (by rfl) (one_news HPo3.out.c) (by simp [Value.oneCell']) (by omega) (by unfold maxLen; omega) (by omega) hB3 _ rfl ?_
              intro ga4 cap4 wx4 hown hgrow hat hlt4
              have HM4 := Lib.hid (HM3.out.appY hB3 hown hgrow hat)
              have hB4 : w1.heap.size ≤ wx4.heap.size := Nat.le_trans hB3 hgrow.size
              refine hK _ _ ⟨HM4.out.c1, HM4.out.c2⟩ ?_
              clear hK K' hown hgrow hat HM3 hB3 HPo3
              simp only [Act.put, List.getElem_toArray, List.getElem_cons_succ, List.getElem_cons_zero, List.setIfInBounds_toArray, List.set_cons_zero, List.set_cons_succ]
              refine wpAnyU_takeB (i := 16) (v := .pointer (some ⟨w1.heap.size + 1, 0, none⟩)) rfl (by kernel_rfl) (by kernel_rfl) (by kernel_rfl) (by kernel_rfl) (fun _ _ _ h => h) (Or.inl ⟨by rfl, fun w => by go_simp⟩) ?_
              simp only [Act.put, List.getElem_toArray, List.getElem_cons_succ, List.getElem_cons_zero, List.setIfInBounds_toArray, List.set_cons_zero, List.set_cons_succ]
              refine wpAnyU_takeB (i := 17) (v := .pointer (some ⟨w1.heap.size + 1, 2, none⟩)) rfl (by kernel_rfl) (by kernel_rfl) (by kernel_rfl) (by kernel_rfl) (fun _ _ _ h => h) (Or.inl ⟨by rfl, fun w => by go_simp⟩) ?_
              simp only [Act.put, List.getElem_toArray, List.getElem_cons_succ, List.getElem_cons_zero, List.setIfInBounds_toArray, List.set_cons_zero, List.set_cons_succ]
              have q1 := HM4.out.c1
              have q2 := HM4.out.c2
              have q3 := HM4.out.fz
              refine wpAnyU_all (rs := [18]) (by kernel_rfl) (by simp) (all1 ?_)
              refine wpOpU_stepB rfl (by kernel_rfl) (fun K' hK => ?_)
              go_simp
              refine hK _ _ ?_
              clear hK K'
              refine wpAnyU_takeB (i := 19) (v := .pointer (some ⟨w1.heap.size + 1, 0, none⟩)) rfl (by kernel_rfl) (by kernel_rfl) (by kernel_rfl) (by kernel_rfl) (fun _ _ _ h => h) (Or.inl ⟨by rfl, fun w => by go_simp⟩) ?_
              simp only [Act.put, List.getElem_toArray, List.getElem_cons_succ, List.getElem_cons_zero, List.setIfInBounds_toArray, List.set_cons_zero, List.set_cons_succ]
              refine wpAnyU_takeB (i := 20) (v := .pointer (some ⟨w1.heap.size + 1, 1, none⟩)) rfl (by kernel_rfl) (by kernel_rfl) (by kernel_rfl) (by kernel_rfl) (fun _ _ _ h => h) (Or.inl ⟨by rfl, fun w => by go_simp⟩) ?_
              simp only [Act.put, List.getElem_toArray, List.getElem_cons_succ, List.getElem_cons_zero, List.setIfInBounds_toArray, List.set_cons_zero, List.set_cons_succ]
              refine wpAnyU_all (rs := [21]) (by kernel_rfl) (by simp) (all1 ?_)
              refine wpOpU_stepB rfl (by kernel_rfl) (fun K' hK => ?_)
              go_simp
              refine hK _ _ ?_
              clear hK K'
              refine wpAnyU_done (by kernel_rfl) ?_ _
              have HN := Lib.hid (newAt_of HM4.out (by omega) hlt HOF.out.symm HST.out.symm)
              clear q1 q2 q3 HM4 hB4
              generalize (wx4.setCell ⟨w1.heap.size + 1, 2, none⟩ (.slice (some ⟨ga3, 0, none⟩) (k + 1) cap3)).setCell ⟨w1.heap.size + 1, 1, none⟩ (.slice (some ⟨ga4, 0, none⟩) (k + 1 + 1) cap4) = wz at HN ⊢
              clear HST HON HOS HNE HBL hn hbw
              go_wp2_with fail
              go_roundw
              case rel => exact ⟨k + 1, by omega, by go_num, congrArg _ HOF.out.symm, HN, rightAll HRA.out hr.out⟩
              case measure => simp [intOf]; omega
          · refine wpOpU_step rfl (fun K' hK => ?_)
            go_simp
            have HM1 := Lib.hid (HM.out.alloc hBc (.cells #[.int .i64 f'] 3))
            have HP1 := Lib.hid (HM.out.pend f')
            have hB1 : w1.heap.size ≤ (wc.alloc (.cells #[.int .i64 f'] 3)).heap.size := by simp; omega
            obtain ⟨g1, hg1⟩ : ∃ g, g = wc.heap.size := ⟨_, rfl⟩
            rw [← hg1] at HP1 ⊢
            generalize wc.alloc (.cells #[.int .i64 f'] 3) = wx1 at HM1 HP1 hB1 ⊢
            refine hK _ _ ⟨HM1.out.c1, HM1.out.c2⟩ ?_
            clear hK K' hg1 HM hBc 
            refine wpAnyU_all (rs := [7]) (by kernel_rfl) (by simp) (all1 ?_)
            refine wpOpU_step rfl (fun K' hK => ?_)
            go_simp
            have HM2 := Lib.hid (HM1.out.alloc hB1 (.cells #[.int .i64 st] 3))
            have HP2 := Lib.hid (HM1.out.pend st)
            have HPo2 := Lib.hid (HP1.out.alloc (.cells #[.int .i64 st] 3))
            have hB2 : w1.heap.size ≤ (wx1.alloc (.cells #[.int .i64 st] 3)).heap.size := by simp; omega
            obtain ⟨g2, hg2⟩ : ∃ g, g = wx1.heap.size := ⟨_, rfl⟩
            rw [← hg2] at HP2 ⊢
            generalize wx1.alloc (.cells #[.int .i64 st] 3) = wx2 at HM2 HP2 hB2 HPo2 ⊢
            refine hK _ _ ⟨HM2.out.c1, HM2.out.c2⟩ ?_
            clear hK K' hg2 HM1 hB1 HP1
            refine wpAnyU_all (rs := [8]) (by kernel_rfl) (by simp) (all1 ?_)
            refine wpOpU_step rfl (fun K' hK => ?_)
            refine step_append_lies _ (by rfl) (.tmp 56) (.tmp 58) 66 (by rfl) w1.heap.size 3 i0 _ 1 8 Tryd.underlying66 hi0 hq0 hq1 hq2 rfl (by omega) (.slice sa k sc) k (ints ((sts first L).take k)) (by rfl) HM2.out.ox ⟨g2, 0, none⟩ 1 1 [.int .i64 st] (by rfl) (by rfl) (one_news HP2.out.c) (by simp [Value.oneCell']) (by omega) (by unfold maxLen; omega) (by omega) hB2 _ rfl ?_
            intro ga3 cap3 wx3 hown hgrow hat hlt3
            have HM3 := Lib.hid (HM2.out.appX hB2 hown hgrow hat)
            have HPo3 := Lib.hid (HPo2.out.appX (m := k + 1) (cap := cap3) hgrow hat)
            have hB3 : w1.heap.size ≤ wx3.heap.size := Nat.le_trans hB2 hgrow.size
            refine hK _ _ ⟨HM3.out.c1, HM3.out.c2⟩ ?_
            clear hK K' hown hgrow hat HM2 hB2 HP2 HPo2
            simp only [Act.put, List.getElem_toArray, List.getElem_cons_succ, List.getElem_cons_zero, List.setIfInBounds_toArray, List.set_cons_zero, List.set_cons_succ]
            refine wpAnyU_all (rs := [15]) (by kernel_rfl) (by simp) (all1 ?_)
            refine wpOpU_step rfl (fun K' hK => ?_)
            refine step_append_lies _ (by rfl) (.tmp 63) (.tmp 65) 66 (by rfl) w1.heap.size 3 i0 _ 1 8 Tryd.underlying66 hi0 hq0 hq1 hq2 rfl (by omega) (.slice oa (k + 1) oc) (k + 1) (ints ((offs first L).take (k + 1))) (by rfl) HM3.out.oy ⟨g1, 0, none⟩ 1 1 [.int .i64 f'] (by rfl) (by rfl) (one_news HPo3.out.c) (by simp [Value.oneCell']) (by omega) (by unfold maxLen; omega) (by omega) hB3 _ rfl ?_
            intro ga4 cap4 wx4 hown hgrow hat hlt4
            have HM4 := Lib.hid (HM3.out.appY hB3 hown hgrow hat)
            have hB4 : w1.heap.size ≤ wx4.heap.size := Nat.le_trans hB3 hgrow.size
            refine hK _ _ ⟨HM4.out.c1, HM4.out.c2⟩ ?_
            clear hK K' hown hgrow hat HM3 hB3 HPo3
            simp only [Act.put, List.getElem_toArray, List.getElem_cons_succ, List.getElem_cons_zero, List.setIfInBounds_toArray, List.set_cons_zero, List.set_cons_succ]
            refine wpAnyU_takeB (i := 16) (v := .pointer (some ⟨w1.heap.size + 1, 0, none⟩)) rfl (by kernel_rfl) (by kernel_rfl) (by kernel_rfl) (by kernel_rfl) (fun _ _ _ h => h) (Or.inl ⟨by rfl, fun w => by go_simp⟩) ?_
            simp only [Act.put, List.getElem_toArray, List.getElem_cons_succ, List.getElem_cons_zero, List.setIfInBounds_toArray, List.set_cons_zero, List.set_cons_succ]
            refine wpAnyU_takeB (i := 17) (v := .pointer (some ⟨w1.heap.size + 1, 2, none⟩)) rfl (by kernel_rfl) (by kernel_rfl) (by kernel_rfl) (by kernel_rfl) (fun _ _ _ h => h) (Or.inl ⟨by rfl, fun w => by go_simp⟩) ?_
            simp only [Act.put, List.getElem_toArray, List.getElem_cons_succ, List.getElem_cons_zero, List.setIfInBounds_toArray, List.set_cons_zero, List.set_cons_succ]
            have q1 := HM4.out.c1
            have q2 := HM4.out.c2
            have q3 := HM4.out.fz
            refine wpAnyU_all (rs := [18]) (by kernel_rfl) (by simp) (all1 ?_)
            refine wpOpU_stepB rfl (by kernel_rfl) (fun K' hK => ?_)
            go_simp
            refine hK _ _ ?_
            clear hK K'
            refine wpAnyU_takeB (i := 19) (v := .pointer (some ⟨w1.heap.size + 1, 0, none⟩)) rfl (by kernel_rfl) (by kernel_rfl) (by kernel_rfl) (by kernel_rfl) (fun _ _ _ h => h) (Or.inl ⟨by rfl, fun w => by go_simp⟩) ?_
            simp only [Act.put, List.getElem_toArray, List.getElem_cons_succ, List.getElem_cons_zero, List.setIfInBounds_toArray, List.set_cons_zero, List.set_cons_succ]
            refine wpAnyU_takeB (i := 20) (v := .pointer (some ⟨w1.heap.size + 1, 1, none⟩)) rfl (by kernel_rfl) (by kernel_rfl) (by kernel_rfl) (by kernel_rfl) (fun _ _ _ h => h) (Or.inl ⟨by rfl, fun w => by go_simp⟩) ?_
            simp only [Act.put, List.getElem_toArray, List.getElem_cons_succ, List.getElem_cons_zero, List.setIfInBounds_toArray, List.set_cons_zero, List.set_cons_succ]
            refine wpAnyU_all (rs := [21]) (by kernel_rfl) (by simp) (all1 ?_)
            refine wpOpU_stepB rfl (by kernel_rfl) (fun K' hK => ?_)
            go_simp
            refine hK _ _ ?_
            clear hK K'
            refine wpAnyU_done (by kernel_rfl) ?_ _
            have HN := Lib.hid (newAt_of HM4.out (by omega) hlt HOF.out.symm HST.out.symm)
            clear q1 q2 q3 HM4 hB4
            generalize (wx4.setCell ⟨w1.heap.size + 1, 2, none⟩ (.slice (some ⟨ga3, 0, none⟩) (k + 1) cap3)).setCell ⟨w1.heap.size + 1, 1, none⟩ (.slice (some ⟨ga4, 0, none⟩) (k + 1 + 1) cap4) = wz at HN ⊢
            clear HST HON HOS HNE HBL hn hbw
            go_wp2_with fail
            go_roundw
            case rel => exact ⟨k + 1, by omega, by go_num, congrArg _ HOF.out.symm, HN, rightAll HRA.out hr.out⟩
            case measure => simp [intOf]; omega
    · have hkk : k = L.length := by omega
      subst hkk
      have HT := Lib.hid (tabAt_of (vb := vb) hn.out rfl (by omega) (fun h => ⟨(HV1.out h).1, (HV1.out h).2.2⟩) HV2.out)
      have HBF : Hid (Below w.heap.size w wr) := HB1.out.trans (hb.mono hz1)
      clear hb
      go_wp2_with fail
      go_ret2
      exact .inl ⟨hr.out, _, rfl, HT.out, HBF.out⟩
end Go.Proofs.YtmjmoihggojpiaaDoor
