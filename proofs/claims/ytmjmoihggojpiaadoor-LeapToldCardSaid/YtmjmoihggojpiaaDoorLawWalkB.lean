/- The walk of the law LeapBy. -/
import Derived.Test.YtmjmoihggojpiaaDoorLawWalkA
import Derived.Test.YtmjmoihggojpiaaDoorLeapWalkD
set_option linter.unusedSimpArgs false
set_option linter.unusedVariables false
namespace Go.Proofs.YtmjmoihggojpiaaDoor
open Go.RowKit Civ
attribute [local go_sem] isSome_setCell

/-- A call that comes to a label and a bool. -/
def LabCall (f : Nat) (args : Array Value) (A : Lab) (o : Bool) : Prop :=
  ∀ W : World, Calls Tryd.prog f args W fun e w' => e = .returned (.tuple #[.agg #[.int .i64 A.y, .int .i64 A.mo, .int .i64 A.d, .int .i64 A.h, .int .i64 A.mi, .int .i64 A.s], .bool o]) ∧ Below W.heap.size W w'
def LabsCall (f : Nat) (args : Array Value) (A B : Lab) (o : Bool) : Prop :=
  ∀ W : World, Calls Tryd.prog f args W fun e w' => e = .returned (.tuple #[.agg #[.int .i64 A.y, .int .i64 A.mo, .int .i64 A.d, .int .i64 A.h, .int .i64 A.mi, .int .i64 A.s], .agg #[.int .i64 B.y, .int .i64 B.mo, .int .i64 B.d, .int .i64 B.h, .int .i64 B.mi, .int .i64 B.s], .bool o]) ∧ Below W.heap.size W w'

/-- The law's two boxes: a note and a span. -/
structure Boxes (w : World) (g : Nat) (off : Int) (a b v : Bool) (lo hi : Int) (k : Bool) : Prop where
  n0 : w.cell? ⟨g, 0, none⟩ = some (.int .i64 off)
  n1 : w.cell? ⟨g, 1, none⟩ = some (.bool a)
  n2 : w.cell? ⟨g, 2, none⟩ = some (.bool b)
  n3 : w.cell? ⟨g, 3, none⟩ = some (.bool v)
  m0 : w.cell? ⟨g + 1, 0, none⟩ = some (.int .i64 lo)
  m1 : w.cell? ⟨g + 1, 1, none⟩ = some (.int .i64 hi)
  m2 : w.cell? ⟨g + 1, 2, none⟩ = some (.bool k)
  hz : g + 1 < w.heap.size
theorem Boxes.below {w w' : World} {g B : Nat} {off : Int} {a b v : Bool} {lo hi : Int} {k : Bool} (h : Boxes w g off a b v lo hi k) (hb : Below B w w') (hB : g + 1 < B) : Boxes w' g off a b v lo hi k :=
  ⟨(hb.cell (p := ⟨g, 0, none⟩) (by show g < B; omega)).trans h.n0, (hb.cell (p := ⟨g, 1, none⟩) (by show g < B; omega)).trans h.n1, (hb.cell (p := ⟨g, 2, none⟩) (by show g < B; omega)).trans h.n2, (hb.cell (p := ⟨g, 3, none⟩) (by show g < B; omega)).trans h.n3,
    (hb.cell (p := ⟨g + 1, 0, none⟩) hB).trans h.m0, (hb.cell (p := ⟨g + 1, 1, none⟩) hB).trans h.m1, (hb.cell (p := ⟨g + 1, 2, none⟩) hB).trans h.m2, Nat.lt_of_lt_of_le h.hz hb.size⟩
/-- A label in memory. -/
structure LabIs (w : World) (g : Nat) (A : Lab) : Prop where
  c0 : w.cell? ⟨g, 0, none⟩ = some (.int .i64 A.y)
  c1 : w.cell? ⟨g, 1, none⟩ = some (.int .i64 A.mo)
  c2 : w.cell? ⟨g, 2, none⟩ = some (.int .i64 A.d)
  c3 : w.cell? ⟨g, 3, none⟩ = some (.int .i64 A.h)
  c4 : w.cell? ⟨g, 4, none⟩ = some (.int .i64 A.mi)
  c5 : w.cell? ⟨g, 5, none⟩ = some (.int .i64 A.s)
  hz : g < w.heap.size
theorem LabIs.below {w w' : World} {g B : Nat} {A : Lab} (h : LabIs w g A) (hb : Below B w w') (hB : g < B) : LabIs w' g A :=
  ⟨(hb.cell (p := ⟨g, 0, none⟩) hB).trans h.c0, (hb.cell (p := ⟨g, 1, none⟩) hB).trans h.c1, (hb.cell (p := ⟨g, 2, none⟩) hB).trans h.c2, (hb.cell (p := ⟨g, 3, none⟩) hB).trans h.c3, (hb.cell (p := ⟨g, 4, none⟩) hB).trans h.c4, (hb.cell (p := ⟨g, 5, none⟩) hB).trans h.c5, Nat.lt_of_lt_of_le h.hz hb.size⟩
theorem labIs_new (w : World) (A : Lab) (ty : TypeId) : LabIs (w.alloc (.cells #[.int .i64 A.y, .int .i64 A.mo, .int .i64 A.d, .int .i64 A.h, .int .i64 A.mi, .int .i64 A.s] ty)) w.heap.size A :=
  ⟨by go_simp, by go_simp, by go_simp, by go_simp, by go_simp, by go_simp, by simp⟩

set_option maxRecDepth 100000 in
set_option maxHeartbeats 4000000 in
theorem lawBy_t (off : Int) (a b v : Bool) (tai lo hi : Int) (k : Bool) (w : World) (ht : Tab w) :
    Calls Tryd.prog 3 #[.agg #[.int .i64 off, .bool a, .bool b, .bool v], .int .i64 tai, .agg #[.int .i64 lo, .int .i64 hi, .bool k]] w fun e w' => e = .returned (.bool true) ∧ Below w.heap.size w w' := by
  have HT := Lib.hid ht
  clear ht
  by_cases h1 : tai < -1125899906842624 ∨ 1125899906842624 < tai
  · have q1 : (decide (tai < -1125899906842624) || decide (1125899906842624 < tai)) = true := by simpa using h1
    clear h1
    go_enter Tryd.func3, Tryd.ntmps3
    go_wp2_with fail
    refine (far_t _ _).mono ?_
    rintro e w1 ⟨rfl, rfl⟩
    rw [q1]
    go_wp2_with fail
    refine (alive_t _ ((HT.out.below ((Below.refl _ _).alloc (Nat.le_refl _) _)).below ((Below.refl _ _).alloc (by simp) _))).mono ?_
    rintro e w1 ⟨rfl, hb1⟩
    have HB1 : Hid (Below w.heap.size w w1) := (((Below.refl _ _).alloc (Nat.le_refl _) _).alloc (by simp) _).trans (hb1.mono (by simp; omega))
    clear hb1
    go_wp2_with fail
    go_ret
    exact ⟨rfl, HB1.out⟩
  · have q1 : (decide (tai < -1125899906842624) || decide (1125899906842624 < tai)) = false := by simpa using h1
    have t1 : -1125899906842624 ≤ tai := by omega
    have t2 : tai ≤ 1125899906842624 := by omega
    clear h1
    by_cases h2 : off < -1125899906842624 ∨ 1125899906842624 < off
    · have q2 : (decide (off < -1125899906842624) || decide (1125899906842624 < off)) = true := by simpa using h2
      clear h2
      go_enter Tryd.func3, Tryd.ntmps3
      go_wp2_with fail
      refine (far_t _ _).mono ?_
      rintro e w1 ⟨rfl, rfl⟩
      rw [q1]
      go_wp2_with fail
      refine (far_t _ _).mono ?_
      rintro e w1 ⟨rfl, rfl⟩
      rw [q2]
      go_wp2_with fail
      refine (alive_t _ ((HT.out.below ((Below.refl _ _).alloc (Nat.le_refl _) _)).below ((Below.refl _ _).alloc (by simp) _))).mono ?_
      rintro e w1 ⟨rfl, hb1⟩
      have HB1 : Hid (Below w.heap.size w w1) := (((Below.refl _ _).alloc (Nat.le_refl _) _).alloc (by simp) _).trans (hb1.mono (by simp; omega))
      clear hb1
      go_wp2_with fail
      go_ret
      exact ⟨rfl, HB1.out⟩
    · have q2 : (decide (off < -1125899906842624) || decide (1125899906842624 < off)) = false := by simpa using h2
      have o1 : -1125899906842624 ≤ off := by omega
      have o2 : off ≤ 1125899906842624 := by omega
      clear h2
      have C1 : LabCall 7 #[.agg #[.int .i64 off, .bool a, .bool b, .bool v], .int .i64 tai] (byOut off a b v tai).1 (byOut off a b v tai).2 := fun W => by_t off a b v tai W (by omega) (by omega) (by omega) (by omega)
      have C2 : LabCall 8 #[.agg #[.int .i64 off, .bool a, .bool b, .bool v], .int .i64 tai] (byOut off a b v tai).1 (byOut off a b v tai).2 := fun W => refBy_t off a b v tai W (by omega) (by omega) (by omega) (by omega)
      have C3 : LabsCall 9 #[.agg #[.int .i64 off, .bool a, .bool b, .bool v], .agg #[.int .i64 lo, .int .i64 hi, .bool k]] (spansLow off a b v lo hi k) (spansHigh off a b v lo hi k) (spansOk off a b v lo hi k) := fun W => spans_t off a b v lo hi k W (by omega) (by omega)
      have C4 : LabsCall 10 #[.agg #[.int .i64 off, .bool a, .bool b, .bool v], .agg #[.int .i64 lo, .int .i64 hi, .bool k]] (spansLow off a b v lo hi k) (spansHigh off a b v lo hi k) (spansOk off a b v lo hi k) := fun W => refSpans_t off a b v lo hi k W (by omega) (by omega)
      generalize (byOut off a b v tai).1 = A at C1 C2
      generalize (byOut off a b v tai).2 = oA at C1 C2
      generalize spansLow off a b v lo hi k = B at C3 C4
      generalize spansHigh off a b v lo hi k = C at C3 C4
      generalize spansOk off a b v lo hi k = oB at C3 C4
      obtain ⟨y1, mo1, d1, h1, mi1, s1⟩ := A
      obtain ⟨y2, mo2, d2, h2, mi2, s2⟩ := B
      obtain ⟨y3, mo3, d3, h3, mi3, s3⟩ := C
      go_enter Tryd.func3, Tryd.ntmps3
      go_wp2_with fail
      refine (far_t _ _).mono ?_
      rintro e w1 ⟨rfl, rfl⟩
      rw [q1]
      go_wp2_with fail
      refine (far_t _ _).mono ?_
      rintro e w1 ⟨rfl, rfl⟩
      rw [q2]
      obtain ⟨W0, hW0⟩ : ∃ W0, W0 = (w.alloc (.cells #[.int .i64 off, .bool a, .bool b, .bool v] 23)).alloc (.cells #[.int .i64 lo, .int .i64 hi, .bool k] 25) := ⟨_, rfl⟩
      rw [← hW0]
      have BX : Hid (Boxes W0 w.heap.size off a b v lo hi k) := by
        rw [hW0]
        exact ⟨by go_simp, by go_simp, by go_simp, by go_simp, by go_simp, by go_simp, by go_simp, by simp⟩
      have HB0 : Hid (Below w.heap.size w W0) := by rw [hW0]; exact ((Below.refl _ _).alloc (Nat.le_refl _) _).alloc (by simp) _
      have hw0 : w.heap.size ≤ W0.heap.size := HB0.out.size
      clear hW0
      obtain ⟨n0, n1, n2, n3, m0, m1, m2, hz⟩ := BX.out
      go_wp2_with fail
      refine (C1 _).mono ?_
      rintro e w1 ⟨rfl, hb1⟩
      have HB1 : Hid (Below w.heap.size w w1) := HB0.out.trans (hb1.mono hw0)
      have BX1 := Lib.hid (BX.out.below hb1 hz)
      clear hb1 n0 n1 n2 n3 m0 m1 m2
      obtain ⟨n0, n1, n2, n3, m0, m1, m2, hz1⟩ := BX1.out
      have hz1' : w.heap.size < w1.heap.size := by omega
      go_wp2_with fail
      refine (C2 _).mono ?_
      rintro e w2 ⟨rfl, hb2⟩
      have HB2 : Hid (Below w.heap.size w w2) := (HB1.out.alloc (by omega) _).trans (hb2.mono (by simp; omega))
      have BX2 := Lib.hid ((BX1.out.below ((Below.refl _ _).alloc (Nat.le_refl _) _) hz1).below hb2 (by simp; omega))
      have LA2 := Lib.hid ((labIs_new w1 ⟨y1, mo1, d1, h1, mi1, s1⟩ 29).below hb2 (by simp))
      clear hb2 n0 n1 n2 n3 m0 m1 m2
      obtain ⟨n0, n1, n2, n3, m0, m1, m2, hz2⟩ := BX2.out
      have hz2' : w.heap.size < w2.heap.size := by omega
      have la2 : w1.heap.size < w2.heap.size := LA2.out.hz
      go_wp2_with fail
      refine (C3 _).mono ?_
      rintro e w3 ⟨rfl, hb3⟩
      have HB3 : Hid (Below w.heap.size w w3) := (HB2.out.alloc (by omega) _).trans (hb3.mono (by simp; omega))
      have BX3 := Lib.hid ((BX2.out.below ((Below.refl _ _).alloc (Nat.le_refl _) _) hz2).below hb3 (by simp; omega))
      have LA3 := Lib.hid ((LA2.out.below ((Below.refl _ _).alloc (Nat.le_refl _) (.cells #[.int .i64 y1, .int .i64 mo1, .int .i64 d1, .int .i64 h1, .int .i64 mi1, .int .i64 s1] 33)) la2).below hb3 (by simp; omega))
      have LB3 := Lib.hid ((labIs_new w2 ⟨y1, mo1, d1, h1, mi1, s1⟩ 33).below hb3 (by simp))
      clear hb3 n0 n1 n2 n3 m0 m1 m2
      obtain ⟨n0, n1, n2, n3, m0, m1, m2, hz3⟩ := BX3.out
      have hz3' : w.heap.size < w3.heap.size := by omega
      have la3 : w1.heap.size < w3.heap.size := LA3.out.hz
      have lb3 : w2.heap.size < w3.heap.size := LB3.out.hz
      go_wp2_with fail
      obtain ⟨V3, hV3⟩ : ∃ V3, V3 = (w3.alloc (.cells #[.int .i64 y2, .int .i64 mo2, .int .i64 d2, .int .i64 h2, .int .i64 mi2, .int .i64 s2] 29)).alloc (.cells #[.int .i64 y3, .int .i64 mo3, .int .i64 d3, .int .i64 h3, .int .i64 mi3, .int .i64 s3] 29) := ⟨_, rfl⟩
      rw [← hV3]
      have hb : Below w3.heap.size w3 V3 := by rw [hV3]; exact ((Below.refl _ _).alloc (Nat.le_refl _) _).alloc (by simp) _
      have HBV3 : Hid (Below w.heap.size w V3) := HB3.out.trans (hb.mono (by omega))
      have BXV3 := Lib.hid (BX3.out.below hb hz3)
      have LAV3 := Lib.hid (LA3.out.below hb la3)
      have LBV3 := Lib.hid (LB3.out.below hb lb3)
      have LCV3 : Hid (LabIs V3 w3.heap.size ⟨y2, mo2, d2, h2, mi2, s2⟩) := by rw [hV3]; exact (labIs_new w3 ⟨y2, mo2, d2, h2, mi2, s2⟩ _).below ((Below.refl _ _).alloc (Nat.le_refl _) _) (by simp)
      have LDV3 : Hid (LabIs V3 (w3.heap.size + 1) ⟨y3, mo3, d3, h3, mi3, s3⟩) := by rw [hV3]; have hh := labIs_new (w3.alloc (.cells #[.int .i64 y2, .int .i64 mo2, .int .i64 d2, .int .i64 h2, .int .i64 mi2, .int .i64 s2] 29)) ⟨y3, mo3, d3, h3, mi3, s3⟩ 29; rw [World.size_alloc] at hh; exact hh
      have hv3 : w3.heap.size + 1 < V3.heap.size := LDV3.out.hz
      clear hb hV3 n0 n1 n2 n3 m0 m1 m2
      refine (C4 _).mono ?_
      rintro e w4 ⟨rfl, hb4⟩
      have HB4 : Hid (Below w.heap.size w w4) := HBV3.out.trans (hb4.mono (by omega))
      have LA4 := Lib.hid (LAV3.out.below hb4 (by omega))
      have LB4 := Lib.hid (LBV3.out.below hb4 (by omega))
      have LC4 := Lib.hid (LCV3.out.below hb4 (by omega))
      have LD4 := Lib.hid (LDV3.out.below hb4 (by omega))
      have hv4 : w3.heap.size + 1 < w4.heap.size := LD4.out.hz
      clear hb4
      go_wp2_with fail
      obtain ⟨V4, hV4⟩ : ∃ V4, V4 = (w4.alloc (.cells #[.int .i64 y2, .int .i64 mo2, .int .i64 d2, .int .i64 h2, .int .i64 mi2, .int .i64 s2] 33)).alloc (.cells #[.int .i64 y3, .int .i64 mo3, .int .i64 d3, .int .i64 h3, .int .i64 mi3, .int .i64 s3] 33) := ⟨_, rfl⟩
      rw [← hV4]
      have hb : Below w4.heap.size w4 V4 := by rw [hV4]; exact ((Below.refl _ _).alloc (Nat.le_refl _) _).alloc (by simp) _
      have HBV4 : Hid (Below w.heap.size w V4) := HB4.out.trans (hb.mono (by omega))
      have LAV4 := Lib.hid (LA4.out.below hb (by omega))
      have LBV4 := Lib.hid (LB4.out.below hb (by omega))
      have LCV4 := Lib.hid (LC4.out.below hb (by omega))
      have LDV4 := Lib.hid (LD4.out.below hb (by omega))
      have LEV4 : Hid (LabIs V4 w4.heap.size ⟨y2, mo2, d2, h2, mi2, s2⟩) := by rw [hV4]; exact (labIs_new w4 ⟨y2, mo2, d2, h2, mi2, s2⟩ _).below ((Below.refl _ _).alloc (Nat.le_refl _) _) (by simp)
      have LFV4 : Hid (LabIs V4 (w4.heap.size + 1) ⟨y3, mo3, d3, h3, mi3, s3⟩) := by rw [hV4]; have hh := labIs_new (w4.alloc (.cells #[.int .i64 y2, .int .i64 mo2, .int .i64 d2, .int .i64 h2, .int .i64 mi2, .int .i64 s2] 33)) ⟨y3, mo3, d3, h3, mi3, s3⟩ 33; rw [World.size_alloc] at hh; exact hh
      have hv4' : w4.heap.size + 1 < V4.heap.size := LFV4.out.hz
      clear hb hV4
      refine (alive_t _ (HT.out.below HBV4.out)).mono ?_
      rintro e w5 ⟨rfl, hb5⟩
      have HB5 : Hid (Below w.heap.size w w5) := HBV4.out.trans (hb5.mono (by omega))
      have LA5 := Lib.hid (LAV4.out.below hb5 (by omega))
      have LB5 := Lib.hid (LBV4.out.below hb5 (by omega))
      have LC5 := Lib.hid (LCV4.out.below hb5 (by omega))
      have LD5 := Lib.hid (LDV4.out.below hb5 (by omega))
      have LE5 := Lib.hid (LEV4.out.below hb5 (by omega))
      have LF5 := Lib.hid (LFV4.out.below hb5 (by omega))
      clear hb5
      obtain ⟨a0, a1, a2, a3, a4, a5, az⟩ := LA5.out
      obtain ⟨b0, b1, b2, b3, b4, b5, bz⟩ := LB5.out
      obtain ⟨c0, c1, c2, c3, c4, c5, cz⟩ := LC5.out
      obtain ⟨d0, d1, d2, d3, d4, d5, dz⟩ := LD5.out
      obtain ⟨e0, e1, e2, e3, e4, e5, ez⟩ := LE5.out
      obtain ⟨f0, f1, f2, f3, f4, f5, fz⟩ := LF5.out
      go_wp2_with fail
      go_ret
      exact ⟨rfl, HB5.out⟩
end Go.Proofs.YtmjmoihggojpiaaDoor
