/- The walk of the law LeapTold. -/
import Derived.Test.YtmjmoihggojpiaaDoorMadeWalk
import Derived.Test.YtmjmoihggojpiaaDoorToldPlain
import Derived.Test.YtmjmoihggojpiaaDoorLawWalkB
set_option linter.unusedSimpArgs false
set_option linter.unusedVariables false
namespace Go.Proofs.YtmjmoihggojpiaaDoor
open Go.RowKit Civ
attribute [local go_sem] isSome_setCell

theorem tabOk_of {first : Int} {L : List (Int × Int)} (hL : AllRight L) (h1 : 0 ≤ first) (h2 : first ≤ 30000) (hn : L.length ≤ 64) : TabOk first L :=
  ⟨fun j => by
    by_cases hj : j ≤ L.length
    · have := offs_bd first L j hj (fun i hi => rightAt_sign (hL i (by omega)))
      omega
    · rw [List.getD_eq_getElem?_getD, List.getElem?_eq_none (by rw [offs_len]; omega)]; simp,
   fun j => by
    by_cases hj : j < L.length
    · have := rightAt_day (hL j hj); omega
    · rw [List.getD_eq_getElem?_getD, List.getElem?_eq_none (by omega)]; simp⟩

/-- What the note is at a time whose label is one. -/
theorem note_lies {first : Int} {L : List (Int × Int)} {tb : Nat} {t : Int} {A : Lab} {j : Nat} {D v : Int} (hL : AllRight L) (h1 : 0 ≤ first) (h2 : first ≤ 30000) (hn : L.length ≤ 64) (hA : labOut t first L = (A, true)) (h : Lies first L t A j D v)
    (t0 : 0 ≤ t) (t1 : t ≤ 1099511627776) (W : World) (hT : TabAt W tb L first) :
    Calls Tryd.prog 13 #[.pointer (some ⟨tb, 0, none⟩), .int .i64 t] W fun e w' => e = .returned (.agg #[.int .i64 ((offs first L).getD j 0), .bool (anyLeap (decide (43200 ≤ v)) D true L), .bool (anyLeap (decide (43200 ≤ v)) D false L), .bool true]) ∧ Below W.heap.size W w' := by
  have f := lies_lab h
  have hd : ∀ W, Calls Tryd.prog 26 #[.int .i64 A.y, .int .i64 A.mo, .int .i64 A.d] W fun e w' => e = .returned (.tuple #[.int .i64 D, .bool true]) ∧ Below W.heap.size W w' := fun W => by
    have := day_t A.y A.mo A.d W f.y0.1 f.y0.2 f.m0.1 f.m0.2 f.dd.1 f.dd.2
    rw [f.n] at this
    exact this
  have := note_t t first L tb W hT (tabOk_of hL h1 h2 hn) (by omega) (by omega) A D hA hd f.h0
  rw [h.off, f.late] at this
  exact this

/-- A note in memory, of four cells. -/
structure NoteCells (w : World) (g : Nat) (o : Int) (p q : Bool) : Prop where
  c0 : w.cell? ⟨g, 0, none⟩ = some (.int .i64 o)
  c1 : w.cell? ⟨g, 1, none⟩ = some (.bool p)
  c2 : w.cell? ⟨g, 2, none⟩ = some (.bool q)
  c3 : w.cell? ⟨g, 3, none⟩ = some (.bool true)
  fz : ∀ i, w.frozen? ⟨g, i, none⟩ = false
  hz : g < w.heap.size
theorem NoteCells.below {w w' : World} {g B : Nat} {o : Int} {p q : Bool} (h : NoteCells w g o p q) (hb : Below B w w') (hB : g < B) : NoteCells w' g o p q :=
  ⟨(hb.cell (p := ⟨g, 0, none⟩) hB).trans h.c0, (hb.cell (p := ⟨g, 1, none⟩) hB).trans h.c1, (hb.cell (p := ⟨g, 2, none⟩) hB).trans h.c2, (hb.cell (p := ⟨g, 3, none⟩) hB).trans h.c3, fun i => (hb.frozen (p := ⟨g, i, none⟩) hB).trans (h.fz i), Nat.lt_of_lt_of_le h.hz hb.size⟩
theorem noteCells_new (w : World) (o : Int) (p q : Bool) (ty : TypeId) : NoteCells (w.alloc (.cells #[.int .i64 o, .bool p, .bool q, .bool true] ty)) w.heap.size o p q :=
  ⟨by go_simp, by go_simp, by go_simp, by go_simp, fun i => by go_simp, by simp⟩

theorem noteCells_set {w : World} {g : Nat} {o : Int} {p q : Bool} (h : NoteCells w g o p q) (o' : Int) (p' q' : Bool) :
    NoteCells ((((w.setCell ⟨g, 0, none⟩ (.int .i64 o')).setCell ⟨g, 1, none⟩ (.bool p')).setCell ⟨g, 2, none⟩ (.bool q')).setCell ⟨g, 3, none⟩ (.bool true)) g o' p' q' := by
  obtain ⟨c0, c1, c2, c3, fz, hz⟩ := h
  exact ⟨by go_simp, by go_simp, by go_simp, by go_simp, fun i => by simp only [World.frozen?_setCell]; exact fz i, by simp; exact hz⟩
theorem labIs_far {w : World} {g g' : Nat} {A : Lab} (h : LabIs w g A) (hn : g ≠ g') (i : Nat) (v : Value) : LabIs (w.setCell ⟨g', i, none⟩ v) g A := by
  have k : ∀ o, (w.setCell ⟨g', i, none⟩ v).cell? ⟨g, o, none⟩ = w.cell? ⟨g, o, none⟩ := fun o => World.cell?_setCell_far _ _ _ _ (fun e => hn e.symm)
  exact ⟨(k 0).trans h.c0, (k 1).trans h.c1, (k 2).trans h.c2, (k 3).trans h.c3, (k 4).trans h.c4, (k 5).trans h.c5, by simp; exact h.hz⟩

/-- The ways of the law. -/
def Ends (w : World) (e : Ending) (w' : World) : Prop := e = .returned (.bool true) ∧ Below w.heap.size w w'
def LabelAt (tb : Nat) (L : List (Int × Int)) (first t : Int) (A : Lab) (o : Bool) : Prop :=
  ∀ W, TabAt W tb L first → Calls Tryd.prog 12 #[.pointer (some ⟨tb, 0, none⟩), .int .i64 t] W fun e w' => e = .returned (.tuple #[.agg #[.int .i64 A.y, .int .i64 A.mo, .int .i64 A.d, .int .i64 A.h, .int .i64 A.mi, .int .i64 A.s], .bool o]) ∧ Below W.heap.size W w'
def NoteAt (tb : Nat) (L : List (Int × Int)) (first t off : Int) (a b : Bool) : Prop :=
  ∀ W, TabAt W tb L first → Calls Tryd.prog 13 #[.pointer (some ⟨tb, 0, none⟩), .int .i64 t] W fun e w' => e = .returned (.agg #[.int .i64 off, .bool a, .bool b, .bool true]) ∧ Below W.heap.size W w'

/-- All that the law's main way needs. -/
structure Main (tb : Nat) (L : List (Int × Int)) (first tai more : Int) (y mo d h1 mi1 s1 h2 mi2 s2 : Int) (off : Int) (a1 b1 a2 b2 : Bool) : Prop where
  n1 : NoteAt tb L first tai off a1 b1
  n2 : NoteAt tb L first (tai + more) off a2 b2
  by1 : ¬ (h1 < 12 ∧ 12 ≤ h2) → LabCall 7 #[.agg #[.int .i64 off, .bool a1, .bool b1, .bool true], .int .i64 (tai + more)] ⟨y, mo, d, h2, mi2, s2⟩ true
  by2 : (h1 < 12 ∧ 12 ≤ h2) → LabCall 7 #[.agg #[.int .i64 off, .bool a2, .bool b2, .bool true], .int .i64 (tai + more)] ⟨y, mo, d, h2, mi2, s2⟩ true
  sp1 : ¬ (h1 < 12 ∧ 12 ≤ h2) → LabsCall 9 #[.agg #[.int .i64 off, .bool a1, .bool b1, .bool true], .agg #[.int .i64 ((tai + more) * 1000000000), .int .i64 ((tai + more) * 1000000000 + 999999999), .bool true]] ⟨y, mo, d, h2, mi2, s2⟩ ⟨y, mo, d, h2, mi2, s2⟩ true
  sp2 : (h1 < 12 ∧ 12 ≤ h2) → LabsCall 9 #[.agg #[.int .i64 off, .bool a2, .bool b2, .bool true], .agg #[.int .i64 ((tai + more) * 1000000000), .int .i64 ((tai + more) * 1000000000 + 999999999), .bool true]] ⟨y, mo, d, h2, mi2, s2⟩ ⟨y, mo, d, h2, mi2, s2⟩ true
  of : ∀ W, Calls Tryd.prog 14 #[.int .i64 ((tai + more) * 1000000000), .int .i64 ((tai + more) * 1000000000 + 999999999)] W fun e w' => e = .returned (.agg #[.int .i64 ((tai + more) * 1000000000), .int .i64 ((tai + more) * 1000000000 + 999999999), .bool true]) ∧ Below W.heap.size W w'

theorem spans_same (off : Int) (a b : Bool) (t : Int) (A : Lab) (h0 : 0 ≤ t) (h1 : t ≤ 4295053696) (ho1 : -2000000000000000 ≤ off) (ho2 : off ≤ 2000000000000000) (h : byOut off a b true t = (A, true)) :
    LabsCall 9 #[.agg #[.int .i64 off, .bool a, .bool b, .bool true], .agg #[.int .i64 (t * 1000000000), .int .i64 (t * 1000000000 + 999999999), .bool true]] A A true := fun W => by
  have := spans_t off a b true (t * 1000000000) (t * 1000000000 + 999999999) true W ho1 ho2
  have e1 : t * 1000000000 / 1000000000 = t := by omega
  have e2 : (t * 1000000000 + 999999999) / 1000000000 = t := by omega
  have hb : spansBad (t * 1000000000) (t * 1000000000 + 999999999) true = false := by
    unfold spansBad spanOk small
    simp; omega
  have ho : spansOk off a b true (t * 1000000000) (t * 1000000000 + 999999999) true = true := by
    unfold spansOk; rw [hb, e1, e2, h]; rfl
  obtain ⟨l1, l2⟩ := spans_yes _ _ _ _ _ _ _ ho
  rw [l1, l2, ho, e1, e2, h] at this
  exact this

theorem main_of {first : Int} {L : List (Int × Int)} {tb : Nat} {tai more : Int} {y mo d h1 mi1 s1 h2 mi2 s2 : Int} (hL : AllRight L) (f1 : 0 ≤ first) (f2 : first ≤ 30000) (hn : L.length ≤ 64) (x1 : 0 ≤ tai) (x2 : tai ≤ 4294967296) (x3 : 0 ≤ more) (x4 : more ≤ 86400)
    (hA : labOut tai first L = (⟨y, mo, d, h1, mi1, s1⟩, true)) (hB : labOut (tai + more) first L = (⟨y, mo, d, h2, mi2, s2⟩, true)) : ∃ off a1 b1 a2 b2, Main tb L first tai more y mo d h1 mi1 s1 h2 mi2 s2 off a1 b1 a2 b2 := by
  obtain ⟨j1, D1, v1, l1⟩ := lies_of first L hL tai _ x1 hA
  obtain ⟨j2, D2, v2, l2⟩ := lies_of first L hL (tai + more) _ (by omega) hB
  have q1 := lies_lab l1
  have q2 := lies_lab l2
  obtain rfl : D1 = D2 := q1.n.symm.trans q2.n
  obtain rfl : j1 = j2 := same_j l1 l2
  have n1 := q1.noon
  have n2 := q2.noon
  simp only at n1 n2
  have ob := offs_bd first L j1 l1.jle (fun i hi => rightAt_sign (hL i (by have := l1.jle; omega)))
  have ojl := l1.jle
  have t1 : ¬ (h1 < 12 ∧ 12 ≤ h2) → byOut ((offs first L).getD j1 0) (anyLeap (decide (43200 ≤ v1)) D1 true L) (anyLeap (decide (43200 ≤ v1)) D1 false L) true (tai + more) = (⟨y, mo, d, h2, mi2, s2⟩, true) := fun hc =>
    told hL f1 f2 hn l1 l2 x1 (by omega) (by omega) _ (by rw [if_neg (by omega)])
  have t2 : (h1 < 12 ∧ 12 ≤ h2) → byOut ((offs first L).getD j1 0) (anyLeap (decide (43200 ≤ v2)) D1 true L) (anyLeap (decide (43200 ≤ v2)) D1 false L) true (tai + more) = (⟨y, mo, d, h2, mi2, s2⟩, true) := fun hc =>
    told hL f1 f2 hn l1 l2 x1 (by omega) (by omega) _ (by rw [if_pos (by omega)])
  have cb : ∀ a b, byOut ((offs first L).getD j1 0) a b true (tai + more) = (⟨y, mo, d, h2, mi2, s2⟩, true) → LabCall 7 #[.agg #[.int .i64 ((offs first L).getD j1 0), .bool a, .bool b, .bool true], .int .i64 (tai + more)] ⟨y, mo, d, h2, mi2, s2⟩ true := fun a b h W => by
    have := by_t ((offs first L).getD j1 0) a b true (tai + more) W (by omega) (by omega) (by omega) (by omega)
    rw [h] at this
    exact this
  exact ⟨_, _, _, _, _, fun W hW => note_lies hL f1 f2 hn hA l1 x1 (by omega) W hW, fun W hW => note_lies hL f1 f2 hn hB l2 (by omega) (by omega) W hW, fun hc => cb _ _ (t1 hc), fun hc => cb _ _ (t2 hc),
    fun hc => spans_same _ _ _ _ _ (by omega) (by omega) (by omega) (by omega) (t1 hc), fun hc => spans_same _ _ _ _ _ (by omega) (by omega) (by omega) (by omega) (t2 hc), fun W => spanOf_yes _ _ W (by unfold spanOk small; simp; omega)⟩

set_option maxRecDepth 100000 in
set_option maxHeartbeats 8000000 in
theorem lawTold_t (first : Int) (L : List (Int × Int)) (la : Option Addr) (c : Nat) (tai more : Int) (w : World) (ht : Tab w)
    (HM : Hid (∀ W, Below w.heap.size w W → Calls Tryd.prog 11 #[.agg #[.int .i64 first, .slice la L.length c]] W fun e w' => MadeOut W first L e w')) :
    Calls Tryd.prog 4 #[.agg #[.int .i64 first, .slice la L.length c], .int .i64 tai, .int .i64 more] w fun e w' => Ends w e w' := by
  have HT := Lib.hid ht
  clear ht
  go_enter Tryd.func4, Tryd.ntmps4
  go_wp2_with fail
  refine (HM.out _ ((Below.refl _ _).alloc (Nat.le_refl _) _)).mono ?_
  rintro e w1 ⟨hb1, rfl | ⟨tb, rfl, ht, hr, f1, f2, hn⟩⟩
  · have HB1 := Lib.hid (((Below.refl w.heap.size w).alloc (Nat.le_refl _) _).trans (hb1.mono (by simp)))
    clear hb1
    go_wp2_with fail
    refine (alive_t _ (HT.out.below HB1.out)).mono ?_
    rintro e wz ⟨rfl, hbz⟩
    have HBz := Lib.hid (HB1.out.trans (hbz.mono HB1.out.size))
    clear hbz
    go_wp2_with fail
    go_ret
    exact ⟨rfl, HBz.out⟩
  have HB1 := Lib.hid (((Below.refl w.heap.size w).alloc (Nat.le_refl _) _).trans (hb1.mono (by simp)))
  have H1 := Lib.hid ht
  have HR : Hid (AllRight L) := hr
  have hz1 : w.heap.size ≤ w1.heap.size := HB1.out.size
  clear hb1 ht hr HM
  by_cases c1 : tai < 0
  · have z1 : decide (tai < 0) = true := decide_eq_true c1
    go_wp2_with fail
    refine (alive_t _ (HT.out.below HB1.out)).mono ?_
    rintro e wz ⟨rfl, hbz⟩
    have HBz := Lib.hid (HB1.out.trans (hbz.mono HB1.out.size))
    clear hbz
    go_wp2_with fail
    go_ret
    exact ⟨rfl, HBz.out⟩
  have z1 : decide (tai < 0) = false := decide_eq_false c1
  by_cases c2 : 4294967296 < tai
  · have z2 : decide (4294967296 < tai) = true := decide_eq_true c2
    go_wp2_with fail
    refine (alive_t _ (HT.out.below HB1.out)).mono ?_
    rintro e wz ⟨rfl, hbz⟩
    have HBz := Lib.hid (HB1.out.trans (hbz.mono HB1.out.size))
    clear hbz
    go_wp2_with fail
    go_ret
    exact ⟨rfl, HBz.out⟩
  have z2 : decide (4294967296 < tai) = false := decide_eq_false c2
  by_cases c3 : more < 0
  · have z3 : decide (more < 0) = true := decide_eq_true c3
    go_wp2_with fail
    refine (alive_t _ (HT.out.below HB1.out)).mono ?_
    rintro e wz ⟨rfl, hbz⟩
    have HBz := Lib.hid (HB1.out.trans (hbz.mono HB1.out.size))
    clear hbz
    go_wp2_with fail
    go_ret
    exact ⟨rfl, HBz.out⟩
  have z3 : decide (more < 0) = false := decide_eq_false c3
  by_cases c4 : 86400 < more
  · have z4 : decide (86400 < more) = true := decide_eq_true c4
    go_wp2_with fail
    refine (alive_t _ (HT.out.below HB1.out)).mono ?_
    rintro e wz ⟨rfl, hbz⟩
    have HBz := Lib.hid (HB1.out.trans (hbz.mono HB1.out.size))
    clear hbz
    go_wp2_with fail
    go_ret
    exact ⟨rfl, HBz.out⟩
  have z4 : decide (86400 < more) = false := decide_eq_false c4
  have x1 : 0 ≤ tai := by omega
  have x2 : tai ≤ 4294967296 := by omega
  have x3 : 0 ≤ more := by omega
  have x4 : more ≤ 86400 := by omega
  clear c1 c2 c3 c4
  have HOK := Lib.hid (tabOk_of HR.out f1 f2 hn)
  obtain ⟨⟨⟨y1, mo1, d1, h1, mi1, s1⟩, o1⟩, hA⟩ : ∃ A, labOut tai first L = A := ⟨_, rfl⟩
  obtain ⟨⟨⟨y2, mo2, d2, h2, mi2, s2⟩, o2⟩, hB⟩ : ∃ A, labOut (tai + more) first L = A := ⟨_, rfl⟩
  have C1 : LabelAt tb L first tai ⟨y1, mo1, d1, h1, mi1, s1⟩ o1 := fun W hW => by
    have := label_t tai first L tb W hW HOK.out (by omega) (by omega)
    rw [hA] at this
    exact this
  have C2 : LabelAt tb L first (tai + more) ⟨y2, mo2, d2, h2, mi2, s2⟩ o2 := fun W hW => by
    have := label_t (tai + more) first L tb W hW HOK.out (by omega) (by omega)
    rw [hB] at this
    exact this
  have HA := Lib.hid hA
  have HB := Lib.hid hB
  clear hA hB
  go_wp2_with fail
  refine (C1 _ H1.out).mono ?_
  rintro e w2 ⟨rfl, hb2⟩
  have HB2 := Lib.hid (HB1.out.trans (hb2.mono hz1))
  have H2 := Lib.hid (H1.out.below hb2)
  have hz2 : w.heap.size ≤ w2.heap.size := HB2.out.size
  clear hb2
  go_wp2_with fail
  refine (C2 _ (H2.out.below ((Below.refl _ _).alloc (Nat.le_refl _) _))).mono ?_
  rintro e w3 ⟨rfl, hb3⟩
  have HB3 := Lib.hid ((HB2.out.alloc hz2 _).trans (hb3.mono (by simp; omega)))
  have H3 := Lib.hid ((H2.out.below ((Below.refl _ _).alloc (Nat.le_refl _) (.cells #[.int .i64 y1, .int .i64 mo1, .int .i64 d1, .int .i64 h1, .int .i64 mi1, .int .i64 s1] 29))).below hb3)
  have LA3 := Lib.hid ((labIs_new w2 ⟨y1, mo1, d1, h1, mi1, s1⟩ 29).below hb3 (by simp))
  have hz3 : w2.heap.size < w3.heap.size := LA3.out.hz
  clear hb3
  have HB3' := Lib.hid (HB3.out.alloc (by omega) (.cells #[.int .i64 y2, .int .i64 mo2, .int .i64 d2, .int .i64 h2, .int .i64 mi2, .int .i64 s2] 29))
  have LA3' := Lib.hid (LA3.out.below ((Below.refl _ _).alloc (Nat.le_refl _) (.cells #[.int .i64 y2, .int .i64 mo2, .int .i64 d2, .int .i64 h2, .int .i64 mi2, .int .i64 s2] 29)) hz3)
  have LB3' := Lib.hid (labIs_new w3 ⟨y2, mo2, d2, h2, mi2, s2⟩ 29)
  have H3' := Lib.hid (H3.out.below ((Below.refl _ _).alloc (Nat.le_refl _) (.cells #[.int .i64 y2, .int .i64 mo2, .int .i64 d2, .int .i64 h2, .int .i64 mi2, .int .i64 s2] 29)))
  obtain ⟨V3, hV3⟩ : ∃ V3, V3 = w3.alloc (.cells #[.int .i64 y2, .int .i64 mo2, .int .i64 d2, .int .i64 h2, .int .i64 mi2, .int .i64 s2] 29) := ⟨_, rfl⟩
  rw [← hV3] at HB3' LA3' LB3' H3'
  have hzV : w3.heap.size < V3.heap.size := LB3'.out.hz
  have hzV2 : w2.heap.size < V3.heap.size := LA3'.out.hz
  have HV3 := Lib.hid hV3
  clear hV3
  obtain ⟨a0, a1, a2, a3, a4, a5, az⟩ := LA3'.out
  obtain ⟨b0, b1, b2, b3, b4, b5, bz⟩ := LB3'.out
  go_upto_region 6 with fail
  rw [← HV3.out]
  clear HV3
  rcases o1 with _ | _
  · go_wp2_with fail
    refine (alive_t _ (HT.out.below HB3'.out)).mono ?_
    rintro e wz ⟨rfl, hbz⟩
    have HBz := Lib.hid (HB3'.out.trans (hbz.mono HB3'.out.size))
    clear hbz
    go_wp2_with fail
    go_ret
    exact ⟨rfl, HBz.out⟩
  rcases o2 with _ | _
  · go_wp2_with fail
    refine (alive_t _ (HT.out.below HB3'.out)).mono ?_
    rintro e wz ⟨rfl, hbz⟩
    have HBz := Lib.hid (HB3'.out.trans (hbz.mono HB3'.out.size))
    clear hbz
    go_wp2_with fail
    go_ret
    exact ⟨rfl, HBz.out⟩
  by_cases e1 : y1 = y2
  case neg =>
    have ne1 : (y1 != y2) = true := by rw [bne_iff_ne]; exact e1
    go_wp2_with fail
    refine (alive_t _ (HT.out.below HB3'.out)).mono ?_
    rintro e wz ⟨rfl, hbz⟩
    have HBz := Lib.hid (HB3'.out.trans (hbz.mono HB3'.out.size))
    clear hbz
    go_wp2_with fail
    go_ret
    exact ⟨rfl, HBz.out⟩
  subst e1
  by_cases e2 : mo1 = mo2
  case neg =>
    have ne2 : (mo1 != mo2) = true := by rw [bne_iff_ne]; exact e2
    go_wp2_with fail
    refine (alive_t _ (HT.out.below HB3'.out)).mono ?_
    rintro e wz ⟨rfl, hbz⟩
    have HBz := Lib.hid (HB3'.out.trans (hbz.mono HB3'.out.size))
    clear hbz
    go_wp2_with fail
    go_ret
    exact ⟨rfl, HBz.out⟩
  subst e2
  by_cases e3 : d1 = d2
  case neg =>
    have ne3 : (d1 != d2) = true := by rw [bne_iff_ne]; exact e3
    go_wp2_with fail
    refine (alive_t _ (HT.out.below HB3'.out)).mono ?_
    rintro e wz ⟨rfl, hbz⟩
    have HBz := Lib.hid (HB3'.out.trans (hbz.mono HB3'.out.size))
    clear hbz
    go_wp2_with fail
    go_ret
    exact ⟨rfl, HBz.out⟩
  subst e3
  obtain ⟨off, aa1, bb1, aa2, bb2, HMn⟩ := main_of (tb := tb) HR.out f1 f2 hn x1 x2 x3 x4 HA.out HB.out
  have HMN := Lib.hid HMn
  clear HMn
  clear a0 a1 a2 a3 a4 a5 az b0 b1 b2 b3 b4 b5 bz C1 C2 HA HB H1 H2 H3 HB1 HB2 HB3 LA3 HR
  obtain ⟨a0, a1, a2, a3, a4, a5, az⟩ := LA3'.out
  obtain ⟨b0, b1, b2, b3, b4, b5, bz⟩ := LB3'.out
  go_wp2_with fail
  refine (HMN.out.n1 _ H3'.out).mono ?_
  rintro e w5 ⟨rfl, hb5⟩
  have HB5 := Lib.hid (HB3'.out.trans (hb5.mono (by omega)))
  have H5 := Lib.hid (H3'.out.below hb5)
  have LA5 := Lib.hid (LA3'.out.below hb5 (by omega))
  have LB5 := Lib.hid (LB3'.out.below hb5 (by omega))
  clear hb5 a0 a1 a2 a3 a4 a5 az b0 b1 b2 b3 b4 b5 bz H3' HB3' LA3' LB3'
  have hz5 : w.heap.size ≤ w5.heap.size := HB5.out.size
  have l2 : w2.heap.size < w5.heap.size := LA5.out.hz
  have l3 : w3.heap.size < w5.heap.size := LB5.out.hz
  obtain ⟨V5, hV5⟩ : ∃ V5, V5 = w5.alloc (.cells #[.int .i64 off, .bool aa1, .bool bb1, .bool true] 32) := ⟨_, rfl⟩
  have hbV : Below w5.heap.size w5 V5 := by rw [hV5]; exact (Below.refl _ _).alloc (Nat.le_refl _) _
  have HBV5 := Lib.hid (HB5.out.trans (hbV.mono hz5))
  have HV5' := Lib.hid (H5.out.below hbV)
  have LAV5 := Lib.hid (LA5.out.below hbV l2)
  have LBV5 := Lib.hid (LB5.out.below hbV l3)
  have NV5 : Hid (NoteCells V5 w5.heap.size off aa1 bb1) := by rw [hV5]; exact noteCells_new _ _ _ _ _
  have l5 : w5.heap.size < V5.heap.size := NV5.out.hz
  have HV5 := Lib.hid hV5
  clear hbV hV5
  obtain ⟨a0, a1, a2, a3, a4, a5, az⟩ := LAV5.out
  obtain ⟨b0, b1, b2, b3, b4, b5, bz⟩ := LBV5.out
  go_upto_region 9 with fail
  rw [← HV5.out]
  clear HV5
  by_cases p1 : h1 < 12
  case neg =>
    have q1 : decide (h1 < 12) = false := decide_eq_false p1
    clear a0 a1 a2 a4 a5 az b0 b1 b2 b4 b5 bz
    go_upto_region 11 with fail
    clear a3 b3
    have hzV' : w.heap.size ≤ V5.heap.size := HBV5.out.size
    have m3 : w3.heap.size < V5.heap.size := LBV5.out.hz
    have m5 : w5.heap.size < V5.heap.size := NV5.out.hz
    obtain ⟨n0, n1, n2, n3, nf, nz⟩ := NV5.out
    go_wp2_with fail
    have CB := HMN.out.by1 (fun hc => by omega)
    refine (CB _).mono ?_
    clear CB
    rintro e w7 ⟨rfl, hb7⟩
    have HB7 := Lib.hid (HBV5.out.trans (hb7.mono hzV'))
    have LB7 := Lib.hid (LBV5.out.below hb7 m3)
    have N7 := Lib.hid (NV5.out.below hb7 m5)
    clear hb7 n0 n1 n2 n3 nf nz
    have k7 : w3.heap.size < w7.heap.size := LB7.out.hz
    have k7' : w5.heap.size < w7.heap.size := N7.out.hz
    obtain ⟨V7, hV7⟩ : ∃ V7, V7 = w7.alloc (.cells #[.int .i64 y1, .int .i64 mo1, .int .i64 d1, .int .i64 h2, .int .i64 mi2, .int .i64 s2] 29) := ⟨_, rfl⟩
    have hbV : Below w7.heap.size w7 V7 := by rw [hV7]; exact (Below.refl _ _).alloc (Nat.le_refl _) _
    have HBV7 := Lib.hid (HB7.out.trans (hbV.mono (by have := HB7.out.size; omega)))
    have LBV7 := Lib.hid (LB7.out.below hbV k7)
    have NV7 := Lib.hid (N7.out.below hbV k7')
    have LCV7 : Hid (LabIs V7 w7.heap.size ⟨y1, mo1, d1, h2, mi2, s2⟩) := by rw [hV7]; exact labIs_new w7 ⟨y1, mo1, d1, h2, mi2, s2⟩ _
    have kV7 : w7.heap.size < V7.heap.size := LCV7.out.hz
    have HV7 := Lib.hid hV7
    clear hbV hV7
    go_upto_region 12 with fail
    rw [← HV7.out]
    clear HV7
    go_wp2_with fail
    refine (HMN.out.of _).mono ?_
    rintro e w8 ⟨rfl, hb8⟩
    have HB8 := Lib.hid (HBV7.out.trans (hb8.mono (by have := HBV7.out.size; omega)))
    have LB8 := Lib.hid (LBV7.out.below hb8 (by omega))
    have N8 := Lib.hid (NV7.out.below hb8 (by omega))
    have LC8 := Lib.hid (LCV7.out.below hb8 kV7)
    clear hb8
    have k8 : w3.heap.size < w8.heap.size := LB8.out.hz
    have k8' : w5.heap.size < w8.heap.size := N8.out.hz
    have k8'' : w7.heap.size < w8.heap.size := LC8.out.hz
    obtain ⟨V8, hV8⟩ : ∃ V8, V8 = w8.alloc (.cells #[.int .i64 ((tai + more) * 1000000000), .int .i64 ((tai + more) * 1000000000 + 999999999), .bool true] 38) := ⟨_, rfl⟩
    have hbV : Below w8.heap.size w8 V8 := by rw [hV8]; exact (Below.refl _ _).alloc (Nat.le_refl _) _
    have HBV8 := Lib.hid (HB8.out.trans (hbV.mono (by have := HB8.out.size; omega)))
    have LBV8 := Lib.hid (LB8.out.below hbV k8)
    have NV8 := Lib.hid (N8.out.below hbV k8')
    have LCV8 := Lib.hid (LC8.out.below hbV k8'')
    have SV8 : Hid (V8.cell? ⟨w8.heap.size, 0, none⟩ = some (.int .i64 ((tai + more) * 1000000000)) ∧ V8.cell? ⟨w8.heap.size, 1, none⟩ = some (.int .i64 ((tai + more) * 1000000000 + 999999999)) ∧ V8.cell? ⟨w8.heap.size, 2, none⟩ = some (.bool true)) := by rw [hV8]; exact ⟨by go_simp, by go_simp, by go_simp⟩
    have kV8 : w8.heap.size < V8.heap.size := by rw [hV8]; simp
    have HV8 := Lib.hid hV8
    clear hbV hV8
    go_upto_region 13 with fail
    rw [← HV8.out]
    clear HV8
    obtain ⟨n0, n1, n2, n3, nf, nz⟩ := NV8.out
    obtain ⟨g0, g1, g2⟩ := SV8.out
    go_wp2_with fail
    have CS := HMN.out.sp1 (fun hc => by omega)
    refine (CS _).mono ?_
    clear CS
    rintro e w9 ⟨rfl, hb9⟩
    have HB9 := Lib.hid (HBV8.out.trans (hb9.mono (by have := HBV8.out.size; omega)))
    have LB9 := Lib.hid (LBV8.out.below hb9 (by omega))
    have LC9 := Lib.hid (LCV8.out.below hb9 (by omega))
    have S9 : Hid (w9.cell? ⟨w8.heap.size, 2, none⟩ = some (.bool true)) := (hb9.cell (p := ⟨w8.heap.size, 2, none⟩) kV8).trans g2
    have k9 : w8.heap.size < w9.heap.size := by have := hb9.size; omega
    clear hb9 n0 n1 n2 n3 nf nz g0 g1 g2
    obtain ⟨V9, hV9⟩ : ∃ V9, V9 = (w9.alloc (.cells #[.int .i64 y1, .int .i64 mo1, .int .i64 d1, .int .i64 h2, .int .i64 mi2, .int .i64 s2] 29)).alloc (.cells #[.int .i64 y1, .int .i64 mo1, .int .i64 d1, .int .i64 h2, .int .i64 mi2, .int .i64 s2] 29) := ⟨_, rfl⟩
    have hbV : Below w9.heap.size w9 V9 := by rw [hV9]; exact ((Below.refl _ _).alloc (Nat.le_refl _) _).alloc (by simp) _
    have HBV9 := Lib.hid (HB9.out.trans (hbV.mono (by have := HB9.out.size; omega)))
    have LBV9 := Lib.hid (LB9.out.below hbV LB9.out.hz)
    have LCV9 := Lib.hid (LC9.out.below hbV LC9.out.hz)
    have SV9 : Hid (V9.cell? ⟨w8.heap.size, 2, none⟩ = some (.bool true)) := (hbV.cell (p := ⟨w8.heap.size, 2, none⟩) k9).trans S9.out
    have LDV9 : Hid (LabIs V9 w9.heap.size ⟨y1, mo1, d1, h2, mi2, s2⟩) := by rw [hV9]; exact (labIs_new w9 ⟨y1, mo1, d1, h2, mi2, s2⟩ _).below ((Below.refl _ _).alloc (Nat.le_refl _) _) (by simp)
    have LEV9 : Hid (LabIs V9 (w9.heap.size + 1) ⟨y1, mo1, d1, h2, mi2, s2⟩) := by rw [hV9]; have hh := labIs_new (w9.alloc (.cells #[.int .i64 y1, .int .i64 mo1, .int .i64 d1, .int .i64 h2, .int .i64 mi2, .int .i64 s2] 29)) ⟨y1, mo1, d1, h2, mi2, s2⟩ 29; rw [World.size_alloc] at hh; exact hh
    have kV9 : w9.heap.size + 1 < V9.heap.size := LEV9.out.hz
    have HV9 := Lib.hid hV9
    clear hbV hV9
    go_upto_region 14 with fail
    rw [← HV9.out]
    clear HV9
    go_wp2_with fail
    refine (alive_t _ (HT.out.below HBV9.out)).mono ?_
    rintro e wz ⟨rfl, hbz⟩
    have HBz := Lib.hid (HBV9.out.trans (hbz.mono HBV9.out.size))
    obtain ⟨b0, b1, b2, b3, b4, b5, bz⟩ := LBV9.out.below hbz (by omega)
    obtain ⟨c0, c1, c2, c3, c4, c5, cz⟩ := LCV9.out.below hbz (by omega)
    obtain ⟨d0, d1, d2, d3, d4, d5, dz⟩ := LDV9.out.below hbz (by omega)
    obtain ⟨e0, e1, e2, e3, e4, e5, ez⟩ := LEV9.out.below hbz (by omega)
    have g2 : wz.cell? ⟨w8.heap.size, 2, none⟩ = some (.bool true) := (hbz.cell (p := ⟨w8.heap.size, 2, none⟩) (by show w8.heap.size < _; omega)).trans SV9.out
    clear hbz
    go_wp2_with fail
    go_ret
    exact ⟨rfl, HBz.out⟩
  have q1 : decide (h1 < 12) = true := decide_eq_true p1
  by_cases p2 : 12 ≤ h2
  case neg =>
    have q2 : decide (12 ≤ h2) = false := decide_eq_false p2
    clear a0 a1 a2 a4 a5 az b0 b1 b2 b4 b5 bz
    go_upto_region 11 with fail
    clear a3 b3
    have hzV' : w.heap.size ≤ V5.heap.size := HBV5.out.size
    have m3 : w3.heap.size < V5.heap.size := LBV5.out.hz
    have m5 : w5.heap.size < V5.heap.size := NV5.out.hz
    obtain ⟨n0, n1, n2, n3, nf, nz⟩ := NV5.out
    go_wp2_with fail
    have CB := HMN.out.by1 (fun hc => by omega)
    refine (CB _).mono ?_
    clear CB
    rintro e w7 ⟨rfl, hb7⟩
    have HB7 := Lib.hid (HBV5.out.trans (hb7.mono hzV'))
    have LB7 := Lib.hid (LBV5.out.below hb7 m3)
    have N7 := Lib.hid (NV5.out.below hb7 m5)
    clear hb7 n0 n1 n2 n3 nf nz
    have k7 : w3.heap.size < w7.heap.size := LB7.out.hz
    have k7' : w5.heap.size < w7.heap.size := N7.out.hz
    obtain ⟨V7, hV7⟩ : ∃ V7, V7 = w7.alloc (.cells #[.int .i64 y1, .int .i64 mo1, .int .i64 d1, .int .i64 h2, .int .i64 mi2, .int .i64 s2] 29) := ⟨_, rfl⟩
    have hbV : Below w7.heap.size w7 V7 := by rw [hV7]; exact (Below.refl _ _).alloc (Nat.le_refl _) _
    have HBV7 := Lib.hid (HB7.out.trans (hbV.mono (by have := HB7.out.size; omega)))
    have LBV7 := Lib.hid (LB7.out.below hbV k7)
    have NV7 := Lib.hid (N7.out.below hbV k7')
    have LCV7 : Hid (LabIs V7 w7.heap.size ⟨y1, mo1, d1, h2, mi2, s2⟩) := by rw [hV7]; exact labIs_new w7 ⟨y1, mo1, d1, h2, mi2, s2⟩ _
    have kV7 : w7.heap.size < V7.heap.size := LCV7.out.hz
    have HV7 := Lib.hid hV7
    clear hbV hV7
    go_upto_region 12 with fail
    rw [← HV7.out]
    clear HV7
    go_wp2_with fail
    refine (HMN.out.of _).mono ?_
    rintro e w8 ⟨rfl, hb8⟩
    have HB8 := Lib.hid (HBV7.out.trans (hb8.mono (by have := HBV7.out.size; omega)))
    have LB8 := Lib.hid (LBV7.out.below hb8 (by omega))
    have N8 := Lib.hid (NV7.out.below hb8 (by omega))
    have LC8 := Lib.hid (LCV7.out.below hb8 kV7)
    clear hb8
    have k8 : w3.heap.size < w8.heap.size := LB8.out.hz
    have k8' : w5.heap.size < w8.heap.size := N8.out.hz
    have k8'' : w7.heap.size < w8.heap.size := LC8.out.hz
    obtain ⟨V8, hV8⟩ : ∃ V8, V8 = w8.alloc (.cells #[.int .i64 ((tai + more) * 1000000000), .int .i64 ((tai + more) * 1000000000 + 999999999), .bool true] 38) := ⟨_, rfl⟩
    have hbV : Below w8.heap.size w8 V8 := by rw [hV8]; exact (Below.refl _ _).alloc (Nat.le_refl _) _
    have HBV8 := Lib.hid (HB8.out.trans (hbV.mono (by have := HB8.out.size; omega)))
    have LBV8 := Lib.hid (LB8.out.below hbV k8)
    have NV8 := Lib.hid (N8.out.below hbV k8')
    have LCV8 := Lib.hid (LC8.out.below hbV k8'')
    have SV8 : Hid (V8.cell? ⟨w8.heap.size, 0, none⟩ = some (.int .i64 ((tai + more) * 1000000000)) ∧ V8.cell? ⟨w8.heap.size, 1, none⟩ = some (.int .i64 ((tai + more) * 1000000000 + 999999999)) ∧ V8.cell? ⟨w8.heap.size, 2, none⟩ = some (.bool true)) := by rw [hV8]; exact ⟨by go_simp, by go_simp, by go_simp⟩
    have kV8 : w8.heap.size < V8.heap.size := by rw [hV8]; simp
    have HV8 := Lib.hid hV8
    clear hbV hV8
    go_upto_region 13 with fail
    rw [← HV8.out]
    clear HV8
    obtain ⟨n0, n1, n2, n3, nf, nz⟩ := NV8.out
    obtain ⟨g0, g1, g2⟩ := SV8.out
    go_wp2_with fail
    have CS := HMN.out.sp1 (fun hc => by omega)
    refine (CS _).mono ?_
    clear CS
    rintro e w9 ⟨rfl, hb9⟩
    have HB9 := Lib.hid (HBV8.out.trans (hb9.mono (by have := HBV8.out.size; omega)))
    have LB9 := Lib.hid (LBV8.out.below hb9 (by omega))
    have LC9 := Lib.hid (LCV8.out.below hb9 (by omega))
    have S9 : Hid (w9.cell? ⟨w8.heap.size, 2, none⟩ = some (.bool true)) := (hb9.cell (p := ⟨w8.heap.size, 2, none⟩) kV8).trans g2
    have k9 : w8.heap.size < w9.heap.size := by have := hb9.size; omega
    clear hb9 n0 n1 n2 n3 nf nz g0 g1 g2
    obtain ⟨V9, hV9⟩ : ∃ V9, V9 = (w9.alloc (.cells #[.int .i64 y1, .int .i64 mo1, .int .i64 d1, .int .i64 h2, .int .i64 mi2, .int .i64 s2] 29)).alloc (.cells #[.int .i64 y1, .int .i64 mo1, .int .i64 d1, .int .i64 h2, .int .i64 mi2, .int .i64 s2] 29) := ⟨_, rfl⟩
    have hbV : Below w9.heap.size w9 V9 := by rw [hV9]; exact ((Below.refl _ _).alloc (Nat.le_refl _) _).alloc (by simp) _
    have HBV9 := Lib.hid (HB9.out.trans (hbV.mono (by have := HB9.out.size; omega)))
    have LBV9 := Lib.hid (LB9.out.below hbV LB9.out.hz)
    have LCV9 := Lib.hid (LC9.out.below hbV LC9.out.hz)
    have SV9 : Hid (V9.cell? ⟨w8.heap.size, 2, none⟩ = some (.bool true)) := (hbV.cell (p := ⟨w8.heap.size, 2, none⟩) k9).trans S9.out
    have LDV9 : Hid (LabIs V9 w9.heap.size ⟨y1, mo1, d1, h2, mi2, s2⟩) := by rw [hV9]; exact (labIs_new w9 ⟨y1, mo1, d1, h2, mi2, s2⟩ _).below ((Below.refl _ _).alloc (Nat.le_refl _) _) (by simp)
    have LEV9 : Hid (LabIs V9 (w9.heap.size + 1) ⟨y1, mo1, d1, h2, mi2, s2⟩) := by rw [hV9]; have hh := labIs_new (w9.alloc (.cells #[.int .i64 y1, .int .i64 mo1, .int .i64 d1, .int .i64 h2, .int .i64 mi2, .int .i64 s2] 29)) ⟨y1, mo1, d1, h2, mi2, s2⟩ 29; rw [World.size_alloc] at hh; exact hh
    have kV9 : w9.heap.size + 1 < V9.heap.size := LEV9.out.hz
    have HV9 := Lib.hid hV9
    clear hbV hV9
    go_upto_region 14 with fail
    rw [← HV9.out]
    clear HV9
    go_wp2_with fail
    refine (alive_t _ (HT.out.below HBV9.out)).mono ?_
    rintro e wz ⟨rfl, hbz⟩
    have HBz := Lib.hid (HBV9.out.trans (hbz.mono HBV9.out.size))
    obtain ⟨b0, b1, b2, b3, b4, b5, bz⟩ := LBV9.out.below hbz (by omega)
    obtain ⟨c0, c1, c2, c3, c4, c5, cz⟩ := LCV9.out.below hbz (by omega)
    obtain ⟨d0, d1, d2, d3, d4, d5, dz⟩ := LDV9.out.below hbz (by omega)
    obtain ⟨e0, e1, e2, e3, e4, e5, ez⟩ := LEV9.out.below hbz (by omega)
    have g2 : wz.cell? ⟨w8.heap.size, 2, none⟩ = some (.bool true) := (hbz.cell (p := ⟨w8.heap.size, 2, none⟩) (by show w8.heap.size < _; omega)).trans SV9.out
    clear hbz
    go_wp2_with fail
    go_ret
    exact ⟨rfl, HBz.out⟩
  have q2 : decide (12 ≤ h2) = true := decide_eq_true p2
  clear a0 a1 a2 a4 a5 az b0 b1 b2 b4 b5 bz
  go_wp2_with fail
  refine (HMN.out.n2 _ HV5'.out).mono ?_
  rintro e w6 ⟨rfl, hb6⟩
  have HB6 := Lib.hid (HBV5.out.trans (hb6.mono (by have := HBV5.out.size; omega)))
  have LB6 := Lib.hid (LBV5.out.below hb6 LBV5.out.hz)
  have N6 := Lib.hid (NV5.out.below hb6 l5)
  clear hb6 a3 b3
  have k6 : w5.heap.size < w6.heap.size := N6.out.hz
  obtain ⟨V6, hV6⟩ : ∃ V6, V6 = (((w6.setCell ⟨w5.heap.size, 0, none⟩ (.int .i64 off)).setCell ⟨w5.heap.size, 1, none⟩ (.bool aa2)).setCell ⟨w5.heap.size, 2, none⟩ (.bool bb2)).setCell ⟨w5.heap.size, 3, none⟩ (.bool true) := ⟨_, rfl⟩
  have HB6' : Hid (Below w.heap.size w V6) := by rw [hV6]; exact (((HB6.out.setCell hz5 _).setCell hz5 _).setCell hz5 _).setCell hz5 _
  have LB6' : Hid (LabIs V6 w3.heap.size ⟨y1, mo1, d1, h2, mi2, s2⟩) := by rw [hV6]; exact labIs_far (labIs_far (labIs_far (labIs_far LB6.out (by show w3.heap.size ≠ w5.heap.size; omega) _ _) (by show w3.heap.size ≠ w5.heap.size; omega) _ _) (by show w3.heap.size ≠ w5.heap.size; omega) _ _) (by show w3.heap.size ≠ w5.heap.size; omega) _ _
  have N6' : Hid (NoteCells V6 w5.heap.size off aa2 bb2) := by rw [hV6]; exact noteCells_set N6.out _ _ _
  have HV6 := Lib.hid hV6
  clear hV6
  obtain ⟨n0, n1, n2, n3, nf, nz⟩ := N6.out
  go_upto_region 11 with fail
  rw [← HV6.out]
  clear HV6 n0 n1 n2 n3 nf nz
  have hzV' : w.heap.size ≤ V6.heap.size := HB6'.out.size
  have m3 : w3.heap.size < V6.heap.size := LB6'.out.hz
  have m5 : w5.heap.size < V6.heap.size := N6'.out.hz
  obtain ⟨n0, n1, n2, n3, nf, nz⟩ := N6'.out
  go_wp2_with fail
  have CB := HMN.out.by2 ⟨p1, p2⟩
  refine (CB _).mono ?_
  clear CB
  rintro e w7 ⟨rfl, hb7⟩
  have HB7 := Lib.hid (HB6'.out.trans (hb7.mono hzV'))
  have LB7 := Lib.hid (LB6'.out.below hb7 m3)
  have N7 := Lib.hid (N6'.out.below hb7 m5)
  clear hb7 n0 n1 n2 n3 nf nz
  have k7 : w3.heap.size < w7.heap.size := LB7.out.hz
  have k7' : w5.heap.size < w7.heap.size := N7.out.hz
  obtain ⟨V7, hV7⟩ : ∃ V7, V7 = w7.alloc (.cells #[.int .i64 y1, .int .i64 mo1, .int .i64 d1, .int .i64 h2, .int .i64 mi2, .int .i64 s2] 29) := ⟨_, rfl⟩
  have hbV : Below w7.heap.size w7 V7 := by rw [hV7]; exact (Below.refl _ _).alloc (Nat.le_refl _) _
  have HBV7 := Lib.hid (HB7.out.trans (hbV.mono (by have := HB7.out.size; omega)))
  have LBV7 := Lib.hid (LB7.out.below hbV k7)
  have NV7 := Lib.hid (N7.out.below hbV k7')
  have LCV7 : Hid (LabIs V7 w7.heap.size ⟨y1, mo1, d1, h2, mi2, s2⟩) := by rw [hV7]; exact labIs_new w7 ⟨y1, mo1, d1, h2, mi2, s2⟩ _
  have kV7 : w7.heap.size < V7.heap.size := LCV7.out.hz
  have HV7 := Lib.hid hV7
  clear hbV hV7
  go_upto_region 12 with fail
  rw [← HV7.out]
  clear HV7
  go_wp2_with fail
  refine (HMN.out.of _).mono ?_
  rintro e w8 ⟨rfl, hb8⟩
  have HB8 := Lib.hid (HBV7.out.trans (hb8.mono (by have := HBV7.out.size; omega)))
  have LB8 := Lib.hid (LBV7.out.below hb8 (by omega))
  have N8 := Lib.hid (NV7.out.below hb8 (by omega))
  have LC8 := Lib.hid (LCV7.out.below hb8 kV7)
  clear hb8
  have k8 : w3.heap.size < w8.heap.size := LB8.out.hz
  have k8' : w5.heap.size < w8.heap.size := N8.out.hz
  have k8'' : w7.heap.size < w8.heap.size := LC8.out.hz
  obtain ⟨V8, hV8⟩ : ∃ V8, V8 = w8.alloc (.cells #[.int .i64 ((tai + more) * 1000000000), .int .i64 ((tai + more) * 1000000000 + 999999999), .bool true] 38) := ⟨_, rfl⟩
  have hbV : Below w8.heap.size w8 V8 := by rw [hV8]; exact (Below.refl _ _).alloc (Nat.le_refl _) _
  have HBV8 := Lib.hid (HB8.out.trans (hbV.mono (by have := HB8.out.size; omega)))
  have LBV8 := Lib.hid (LB8.out.below hbV k8)
  have NV8 := Lib.hid (N8.out.below hbV k8')
  have LCV8 := Lib.hid (LC8.out.below hbV k8'')
  have SV8 : Hid (V8.cell? ⟨w8.heap.size, 0, none⟩ = some (.int .i64 ((tai + more) * 1000000000)) ∧ V8.cell? ⟨w8.heap.size, 1, none⟩ = some (.int .i64 ((tai + more) * 1000000000 + 999999999)) ∧ V8.cell? ⟨w8.heap.size, 2, none⟩ = some (.bool true)) := by rw [hV8]; exact ⟨by go_simp, by go_simp, by go_simp⟩
  have kV8 : w8.heap.size < V8.heap.size := by rw [hV8]; simp
  have HV8 := Lib.hid hV8
  clear hbV hV8
  go_upto_region 13 with fail
  rw [← HV8.out]
  clear HV8
  obtain ⟨n0, n1, n2, n3, nf, nz⟩ := NV8.out
  obtain ⟨g0, g1, g2⟩ := SV8.out
  go_wp2_with fail
  have CS := HMN.out.sp2 ⟨p1, p2⟩
  refine (CS _).mono ?_
  clear CS
  rintro e w9 ⟨rfl, hb9⟩
  have HB9 := Lib.hid (HBV8.out.trans (hb9.mono (by have := HBV8.out.size; omega)))
  have LB9 := Lib.hid (LBV8.out.below hb9 (by omega))
  have LC9 := Lib.hid (LCV8.out.below hb9 (by omega))
  have S9 : Hid (w9.cell? ⟨w8.heap.size, 2, none⟩ = some (.bool true)) := (hb9.cell (p := ⟨w8.heap.size, 2, none⟩) kV8).trans g2
  have k9 : w8.heap.size < w9.heap.size := by have := hb9.size; omega
  clear hb9 n0 n1 n2 n3 nf nz g0 g1 g2
  obtain ⟨V9, hV9⟩ : ∃ V9, V9 = (w9.alloc (.cells #[.int .i64 y1, .int .i64 mo1, .int .i64 d1, .int .i64 h2, .int .i64 mi2, .int .i64 s2] 29)).alloc (.cells #[.int .i64 y1, .int .i64 mo1, .int .i64 d1, .int .i64 h2, .int .i64 mi2, .int .i64 s2] 29) := ⟨_, rfl⟩
  have hbV : Below w9.heap.size w9 V9 := by rw [hV9]; exact ((Below.refl _ _).alloc (Nat.le_refl _) _).alloc (by simp) _
  have HBV9 := Lib.hid (HB9.out.trans (hbV.mono (by have := HB9.out.size; omega)))
  have LBV9 := Lib.hid (LB9.out.below hbV LB9.out.hz)
  have LCV9 := Lib.hid (LC9.out.below hbV LC9.out.hz)
  have SV9 : Hid (V9.cell? ⟨w8.heap.size, 2, none⟩ = some (.bool true)) := (hbV.cell (p := ⟨w8.heap.size, 2, none⟩) k9).trans S9.out
  have LDV9 : Hid (LabIs V9 w9.heap.size ⟨y1, mo1, d1, h2, mi2, s2⟩) := by rw [hV9]; exact (labIs_new w9 ⟨y1, mo1, d1, h2, mi2, s2⟩ _).below ((Below.refl _ _).alloc (Nat.le_refl _) _) (by simp)
  have LEV9 : Hid (LabIs V9 (w9.heap.size + 1) ⟨y1, mo1, d1, h2, mi2, s2⟩) := by rw [hV9]; have hh := labIs_new (w9.alloc (.cells #[.int .i64 y1, .int .i64 mo1, .int .i64 d1, .int .i64 h2, .int .i64 mi2, .int .i64 s2] 29)) ⟨y1, mo1, d1, h2, mi2, s2⟩ 29; rw [World.size_alloc] at hh; exact hh
  have kV9 : w9.heap.size + 1 < V9.heap.size := LEV9.out.hz
  have HV9 := Lib.hid hV9
  clear hbV hV9
  go_upto_region 14 with fail
  rw [← HV9.out]
  clear HV9
  go_wp2_with fail
  refine (alive_t _ (HT.out.below HBV9.out)).mono ?_
  rintro e wz ⟨rfl, hbz⟩
  have HBz := Lib.hid (HBV9.out.trans (hbz.mono HBV9.out.size))
  obtain ⟨b0, b1, b2, b3, b4, b5, bz⟩ := LBV9.out.below hbz (by omega)
  obtain ⟨c0, c1, c2, c3, c4, c5, cz⟩ := LCV9.out.below hbz (by omega)
  obtain ⟨d0, d1, d2, d3, d4, d5, dz⟩ := LDV9.out.below hbz (by omega)
  obtain ⟨e0, e1, e2, e3, e4, e5, ez⟩ := LEV9.out.below hbz (by omega)
  have g2 : wz.cell? ⟨w8.heap.size, 2, none⟩ = some (.bool true) := (hbz.cell (p := ⟨w8.heap.size, 2, none⟩) (by show w8.heap.size < _; omega)).trans SV9.out
  clear hbz
  go_wp2_with fail
  go_ret
  exact ⟨rfl, HBz.out⟩
end Go.Proofs.YtmjmoihggojpiaaDoor
