/- The walk of (*leap.Table).Note. -/
import Derived.Test.YtmjmoihggojpiaaDoorTextWalk
set_option linter.unusedSimpArgs false
set_option linter.unusedVariables false
namespace Go.Proofs.YtmjmoihggojpiaaDoor
open Go.RowKit Civ
attribute [local go_sem] isSome_setCell

/-- Is a leap of a sign behind a day, among the first of a row? -/
def anyLeap (late : Bool) (day : Int) (up : Bool) : List (Int × Int) → Bool
  | [] => false
  | x :: l => (late && (decide (x.1 = day) && (if up then decide (0 < x.2) else decide (x.2 < 0)))) || anyLeap late day up l

theorem anyLeap_snoc (late : Bool) (day : Int) (up : Bool) (l : List (Int × Int)) (x : Int × Int) :
    anyLeap late day up (l ++ [x]) = (anyLeap late day up l || (late && (decide (x.1 = day) && (if up then decide (0 < x.2) else decide (x.2 < 0))))) := by
  induction l with
  | nil => simp [anyLeap]
  | cons y l ih => simp [anyLeap, ih, Bool.or_assoc]

theorem take_succ_getD (l : List (Int × Int)) (k : Nat) (h : k < l.length) : l.take (k + 1) = l.take k ++ [l.getD k (0, 0)] := by
  rw [List.take_add_one, List.getD_eq_getElem?_getD, List.getElem?_eq_getElem h]; rfl

/-- Noon or later. -/
def lateOf (a : Lab) : Bool := decide (43200 ≤ a.h * 3600 + a.mi * 60 + a.s)

/-- A note in memory. -/
def NoteIs (w : World) (b : Nat) (o : Int) (p q v : Bool) : Prop :=
  w.cell? ⟨b, 0, none⟩ = some (.int .i64 o) ∧ w.cell? ⟨b, 1, none⟩ = some (.bool p) ∧ w.cell? ⟨b, 2, none⟩ = some (.bool q) ∧ w.cell? ⟨b, 3, none⟩ = some (.bool v) ∧ ∀ i, w.frozen? ⟨b, i, none⟩ = false
theorem NoteIs.alloc {w : World} {b : Nat} {o : Int} {p q v : Bool} (h : NoteIs w b o p q v) (hb : b < w.heap.size) (x : Obj) : NoteIs (w.alloc x) b o p q v := by
  obtain ⟨a, c, d, e, f⟩ := h
  exact ⟨by rw [World.cell?_alloc_past _ _ _ hb]; exact a, by rw [World.cell?_alloc_past _ _ _ hb]; exact c, by rw [World.cell?_alloc_past _ _ _ hb]; exact d, by rw [World.cell?_alloc_past _ _ _ hb]; exact e, fun i => by rw [World.frozen?_alloc_past _ _ _ hb]; exact f i⟩
theorem NoteIs.set1 {w : World} {b : Nat} {o : Int} {p q v : Bool} (h : NoteIs w b o p q v) (x : Bool) : NoteIs (w.setCell ⟨b, 1, none⟩ (.bool x)) b o x q v := by
  obtain ⟨a, c, d, e, f⟩ := h
  refine ⟨?_, ?_, ?_, ?_, fun i => by rw [World.frozen?_setCell]; exact f i⟩ <;> go_simp
theorem NoteIs.set2 {w : World} {b : Nat} {o : Int} {p q v : Bool} (h : NoteIs w b o p q v) (x : Bool) : NoteIs (w.setCell ⟨b, 2, none⟩ (.bool x)) b o p x v := by
  obtain ⟨a, c, d, e, f⟩ := h
  refine ⟨?_, ?_, ?_, ?_, fun i => by rw [World.frozen?_setCell]; exact f i⟩ <;> go_simp
theorem NoteIs.other {w : World} {b : Nat} {o : Int} {p q v : Bool} (h : NoteIs w b o p q v) (b' i : Nat) (x : Value) (hn : b' ≠ b) : NoteIs (w.setCell ⟨b', i, none⟩ x) b o p q v := by
  obtain ⟨a, c, d, e, f⟩ := h
  have hn2 : b ≠ b' := fun h => hn h.symm
  refine ⟨?_, ?_, ?_, ?_, fun i => by rw [World.frozen?_setCell]; exact f i⟩ <;> go_simp

set_option maxHeartbeats 4000000 in
theorem note_t (tai o : Int) (L : List (Int × Int)) (tb : Nat) (w : World) (h : TabAt w tb L o) (hok : TabOk o L) (ht1 : -2000000000000000 ≤ tai) (ht2 : tai ≤ 2000000000000000) (A : Lab) (n : Int)
    (hA : labOut tai o L = (A, true))
    (hday : ∀ W, Calls Tryd.prog 26 #[.int .i64 A.y, .int .i64 A.mo, .int .i64 A.d] W fun e w' => e = .returned (.tuple #[.int .i64 n, .bool true]) ∧ Below W.heap.size W w')
    (hh : 0 ≤ A.h ∧ A.h ≤ 100 ∧ 0 ≤ A.mi ∧ A.mi ≤ 100 ∧ 0 ≤ A.s ∧ A.s ≤ 100) :
    Calls Tryd.prog 13 #[.pointer (some ⟨tb, 0, none⟩), .int .i64 tai] w fun e w' => e = .returned (.agg #[.int .i64 (offAt tai o L), .bool (anyLeap (lateOf A) n true L), .bool (anyLeap (lateOf A) n false L), .bool true]) ∧ Below w.heap.size w w' := by
  have HD := Lib.hid hday; clear hday
  obtain ⟨hs0, la, oa, sa, lb, ob, sb, lc, oc, sc, c0, c1, c2, h1, h2, d1, d2, d3, d4⟩ := h.rows |> fun r => (⟨h.small, r⟩ : L.length ≤ 1000 ∧ _)
  have HLA := Lib.hid h1
  have HD1 := Lib.hid d1
  have HD2 := Lib.hid d2
  have HC0 := Lib.hid c0
  clear h1 h2 d1 d2 d3 d4 c0 c1 c2
  have HT := Lib.hid (fun (W : World) (hb : Below w.heap.size w W) => h.below hb); clear h
  obtain ⟨y, m, d, h, mi, s⟩ := A
  have HL : Hid (∀ W, TabAt W tb L o → Calls Tryd.prog 12 #[.pointer (some ⟨tb, 0, none⟩), .int .i64 tai] W fun e w' => e = .returned (.tuple #[.agg #[.int .i64 y, .int .i64 m, .int .i64 d, .int .i64 h, .int .i64 mi, .int .i64 s], .bool true]) ∧ Below W.heap.size W w') := fun W hW => by
    have := label_t tai o L tb W hW hok ht1 ht2
    rw [hA] at this; exact this
  have HO : Hid (∀ W, TabAt W tb L o → Calls Tryd.prog 17 #[.pointer (some ⟨tb, 0, none⟩), .int .i64 tai] W fun e w' => e = .returned (.int .i64 (offAt tai o L)) ∧ Below W.heap.size W w') := fun W hW => offset_t tai o L tb W hW
  clear hA hok
  simp only [] at hh HD
  obtain ⟨h1, h2, h3, h4, h5, h6⟩ := hh
  obtain ⟨lt, hlt0⟩ : ∃ lt, lateOf ⟨y, m, d, h, mi, s⟩ = lt := ⟨_, rfl⟩
  rw [hlt0]
  have hlt : decide (43200 ≤ h * 3600 + mi * 60 + s) = lt := hlt0
  clear hlt0
  go_enter Tryd.func13, Tryd.ntmps13
  go_wp2_with fail
  refine (HL.out _ (HT.out _ ((Below.refl _ _).alloc (Nat.le_refl _) _))).mono ?_
  rintro e w1 ⟨rfl, hb1⟩
  obtain ⟨hc1, hf1⟩ := bone hb1 w.heap.size (by simp)
  have hz1 : w.heap.size < w1.heap.size := by have := hb1.size; simp at this; omega
  have hB1 := Lib.hid (((Below.refl _ _).alloc (Nat.le_refl _) _).trans (hb1.mono (by simp)))
  clear hb1
  go_wp2_with fail
  refine (HO.out _ (HT.out _ (hB1.out.alloc hB1.out.size _))).mono ?_
  rintro e w2 ⟨rfl, hb2⟩
  obtain ⟨hc2, hf2⟩ := bone hb2 w.heap.size (by simp; omega)
  obtain ⟨hc2b, hf2b⟩ := bone hb2 w1.heap.size (by simp)
  have hz2 : w1.heap.size < w2.heap.size := by have := hb2.size; simp at this; omega
  have hz2a : w.heap.size < w2.heap.size := by omega
  have hB2 := Lib.hid ((hB1.out.alloc hB1.out.size _).trans (hb2.mono (by simp; omega)))
  clear hb2
  go_wp2_with fail
  refine (HD.out _).mono ?_
  rintro e w3 ⟨rfl, hb3⟩
  obtain ⟨hc3, hf3⟩ := bone hb3 w.heap.size (by simp; omega)
  obtain ⟨hc3b, hf3b⟩ := bone hb3 w1.heap.size (by simp; omega)
  obtain ⟨hc3c, hf3c⟩ := bone hb3 w2.heap.size (by simp)
  have hz3 : w2.heap.size < w3.heap.size := by have := hb3.size; simp at this; omega
  have hz3a : w.heap.size < w3.heap.size := by omega
  have hz3b : w1.heap.size < w3.heap.size := by omega
  have hB3 := Lib.hid ((hB2.out.alloc hB2.out.size _).trans (hb3.mono (by simp; omega)))
  clear hb3
  have c0 := (hB3.out.cell (World.block_lt_of_cell? w _ HC0.out)).trans HC0.out
  have hN0 : Hid (NoteIs w3 w.heap.size 0 false false false) := ⟨by go_simp, by go_simp, by go_simp, by go_simp, fun i => by go_simp⟩
  have hN1 : Hid (NoteIs w3 w2.heap.size (offAt tai o L) false false true) := ⟨by go_simp, by go_simp, by go_simp, by go_simp, fun i => by go_simp⟩
  go_wp2_with fail
  clear hlt
  obtain ⟨nb, hnb⟩ : ∃ nb, nb = w2.heap.size := ⟨_, rfl⟩
  rw [← hnb] at hN1 hz3 ⊢
  have hrn : w.heap.size < nb := by omega
  clear hnb hc1 hf1 hc2 hf2 hc2b hf2b hc3 hf3 hc3b hf3b hc3c hf3c
  go_loopw [52] (fun i wr => ∃ k : Nat, k ≤ L.length ∧ i = .int .i64 k ∧ Hid (NoteIs wr nb (offAt tai o L) (anyLeap lt n true (L.take k)) (anyLeap lt n false (L.take k)) true) ∧ Hid (NoteIs wr w.heap.size 0 false false false) ∧ nb < wr.heap.size ∧ Hid (Below w.heap.size w wr)) (fun i _ => L.length - (intOf i).toNat)
  case atStart => exact ⟨0, Nat.zero_le _, rfl, hN1, hN0, hz3, hB3⟩
  case round =>
    obtain ⟨k, hk, rfl, hn, h0, hz, hb⟩ := hrel
    by_cases hlt : k < L.length
    · obtain rfl : la = some ⟨lb, 0, none⟩ := HLA.out (by omega)
      have e1 := (hb.out.cell (World.block_lt_of_cell? w _ (HD1.out k hlt))).trans (HD1.out k hlt)
      have e2 := (hb.out.cell (World.block_lt_of_cell? w _ (HD2.out k hlt))).trans (HD2.out k hlt)
      have HS : Hid (∀ up, anyLeap lt n up (L.take (k + 1)) = (anyLeap lt n up (L.take k) || (lt && (decide ((L.getD k (0, 0)).1 = n) && (if up then decide (0 < (L.getD k (0, 0)).2) else decide ((L.getD k (0, 0)).2 < 0)))))) :=
        fun up => by rw [take_succ_getD L k hlt, anyLeap_snoc]
      obtain ⟨⟨dx, sx⟩, hx⟩ : ∃ x, x = L.getD k (0, 0) := ⟨_, rfl⟩
      rw [← hx] at e1 e2 HS
      clear hx
      obtain ⟨p, hp⟩ : ∃ p, p = anyLeap lt n true (L.take k) := ⟨_, rfl⟩
      obtain ⟨q, hq⟩ : ∃ q, q = anyLeap lt n false (L.take k) := ⟨_, rfl⟩
      obtain ⟨b1, hb1⟩ : ∃ b, (dx == n) = b := ⟨_, rfl⟩
      obtain ⟨b2, hb2⟩ : ∃ b, decide (0 < sx) = b := ⟨_, rfl⟩
      obtain ⟨b3, hb3⟩ : ∃ b, decide (sx < 0) = b := ⟨_, rfl⟩
      have HS1 : Hid (anyLeap lt n true (L.take (k + 1)) = (p || (lt && (b1 && b2)))) := by
        show _ = _
        rw [HS.out true, ← hb1, ← hb2, ← hp, Bool.beq_eq_decide_eq]; rfl
      have HS2 : Hid (anyLeap lt n false (L.take (k + 1)) = (q || (lt && (b1 && b3)))) := by
        show _ = _
        rw [HS.out false, ← hb1, ← hb3, ← hq, Bool.beq_eq_decide_eq]; rfl
      rw [← hp, ← hq] at hn
      clear hp hq HS
      have HE : Hid (∀ (x y : Bool) (v : Obj), x = (p || (lt && (b1 && b2))) → y = (q || (lt && (b1 && b3))) → ∃ k_1 : Nat, k_1 ≤ L.length ∧ Value.int .i64 ((k : Int) + 1) = Value.int .i64 k_1 ∧
          Hid (NoteIs (((wr.setCell ⟨nb, 1, none⟩ (.bool x)).setCell ⟨nb, 2, none⟩ (.bool y)).alloc v) nb (offAt tai o L) (anyLeap lt n true (L.take k_1)) (anyLeap lt n false (L.take k_1)) true) ∧
          Hid (NoteIs (((wr.setCell ⟨nb, 1, none⟩ (.bool x)).setCell ⟨nb, 2, none⟩ (.bool y)).alloc v) w.heap.size 0 false false false) ∧
          nb < (((wr.setCell ⟨nb, 1, none⟩ (.bool x)).setCell ⟨nb, 2, none⟩ (.bool y)).alloc v).heap.size ∧
          Hid (Below w.heap.size w (((wr.setCell ⟨nb, 1, none⟩ (.bool x)).setCell ⟨nb, 2, none⟩ (.bool y)).alloc v))) := fun x y v hx hy =>
        ⟨k + 1, by omega, by go_num, by rw [HS1.out, HS2.out, ← hx, ← hy]; exact ((hn.out.set1 _).set2 _).alloc (by simpa using hz) _,
          ((h0.out.other _ _ _ (by omega)).other _ _ _ (by omega)).alloc (by simp; omega) _, by simp; omega,
          ((hb.out.setCell (by simp; omega) _).setCell (by simp; omega) _).alloc (by simp; omega) _⟩
      clear HS1 HS2
      have l1 := World.block_lt_of_cell? wr _ e1
      obtain ⟨n0, n1, n2, n3, nf⟩ := hn.out
      have key : lt = false ∨ (lt = true ∧ b1 = false) ∨ (lt = true ∧ b1 = true) := by cases lt <;> cases b1 <;> simp
      have HM : Hid (L.length - (intOf (Value.int .i64 ((k : Int) + 1))).toNat < L.length - (intOf (Value.int .i64 k)).toNat) := by show _ < _; simp [intOf]; omega
      obtain rfl | ⟨rfl, rfl⟩ | ⟨rfl, rfl⟩ := key
      · cases p <;> cases q
        all_goals
          go_wp2_with fail
          go_round
          case rel => exact HE.out _ _ _ rfl rfl
          case measure => exact HM.out
      · cases p <;> cases q
        all_goals
          go_wp2_with fail
          go_round
          case rel => exact HE.out _ _ _ rfl rfl
          case measure => exact HM.out
      · cases b2 <;> cases b3 <;> cases p <;> cases q
        all_goals
          go_wp2_with fail
          go_round
          case rel => exact HE.out _ _ _ rfl rfl
          case measure => exact HM.out
    · obtain rfl : k = L.length := by omega
      rw [List.take_length] at hn
      obtain ⟨n0, n1, n2, n3, nf⟩ := hn.out
      obtain ⟨r0, r1, r2, r3, rf⟩ := h0.out
      have hzr : w.heap.size < wr.heap.size := by omega
      go_wp2_with fail
      exact bodyPost_ret (v := .agg #[.int .i64 (offAt tai o L), .bool (anyLeap lt n true L), .bool (anyLeap lt n false L), .bool true]) (by simp only [results, Tryd.results13]; go_simp) rfl ⟨rfl, by (repeat (with_reducible refine Below.setCell ?_ (by simp <;> omega) _)); exact hb.out⟩
end Go.Proofs.YtmjmoihggojpiaaDoor
