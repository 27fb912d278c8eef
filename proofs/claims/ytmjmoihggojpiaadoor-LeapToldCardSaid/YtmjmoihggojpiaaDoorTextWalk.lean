/- The walk of civil.Text at a label that is right, given what strconv.Itoa needs. -/
import Derived.Test.YtmjmoihggojpiaaDoorTabWalkD
import Derived.Test.YtmjmoihggojpiaaDoorShelf
import Derived.Lib.BufferWrite
import Derived.Lib.SlBuf
import Derived.Lib.AppendIntMem
import Derived.Lib.SmallJoins
import Derived.Lib.LazyBuf
import Derived.Lib.SlBytesConst
set_option linter.unusedSimpArgs false
set_option linter.unusedVariables false
namespace Go.Proofs.YtmjmoihggojpiaaDoor
open Go.RowKit Civ
attribute [local go_sem] isSome_setCell

/-- The table that Itoa reads lies as it was laid. -/
def Tab (w : World) : Prop := Lib.TabIs Tryd.prog w "internal/strconv.uint64pow10" .u64 Lib.pow10Tab
theorem Tab.below {w w' : World} (h : Tab w) (hb : Below w.heap.size w w') : Tab w' := Lib.tabBelow_of_tabIs h w' hb

theorem itoa_t (n : Int) (h0 : 0 ≤ n) (h1 : n ≤ 1000000000) (w : World) (ht : Tab w) :
    Calls Tryd.prog 33 #[.int .i64 n] w fun e w' => ∃ s : ByteArray, e = .returned (.string s) ∧ s.data.toList = Lib.itoa n ∧ Below w.heap.size w w' := by
  refine (Tryd.strconv_Itoa n (by omega) (by omega) w ht).mono ?_
  rintro e w' ⟨rfl, k, os, rfl⟩
  exact ⟨_, rfl, rfl, Lib.below_grow _ _ (Nat.le_refl _) _ _⟩

def put (cur s : List UInt8) (to : Nat) : List UInt8 := cur.take (to - s.length) ++ s ++ cur.drop to
def form : List UInt8 := [48, 48, 48, 48, 45, 48, 48, 45, 48, 48, 84, 48, 48, 58, 48, 48, 58, 48, 48]
def txt (p : Nat → Int) : Nat → List UInt8
  | 0 => form
  | k + 1 => put (txt p k) (Lib.itoa (p k)) (4 + 3 * k)
theorem put_len (cur s : List UInt8) (to : Nat) (h1 : s.length ≤ to) (h2 : to ≤ cur.length) : (put cur s to).length = cur.length := by
  unfold put; simp; omega
theorem txt_len (p : Nat → Int) (hp : ∀ k, k < 6 → (Lib.itoa (p k)).length ≤ 4 + 3 * k) : ∀ k, k ≤ 6 → (txt p k).length = 19 := by
  intro k
  induction k with
  | zero => intro _; rfl
  | succ k ih =>
    intro hk
    have e := ih (by omega)
    have := put_len (txt p k) (Lib.itoa (p k)) (4 + 3 * k) (hp k (by omega)) (by omega)
    unfold txt; omega

theorem put_getD (cur s : List UInt8) (to j : Nat) (h1 : s.length ≤ to) (h2 : to ≤ cur.length) :
    (put cur s to).getD j 0 = if j < to - s.length then cur.getD j 0 else if j < to then s.getD (j - (to - s.length)) 0 else cur.getD j 0 := by
  unfold put
  simp only [List.getD_eq_getElem?_getD]
  by_cases a : j < to - s.length
  · rw [if_pos a, List.append_assoc, List.getElem?_append_left (by simp; omega), List.getElem?_take, if_pos a]
  · rw [if_neg a, List.append_assoc, List.getElem?_append_right (by simp; omega)]
    have e : (cur.take (to - s.length)).length = to - s.length := by simp; omega
    rw [e]
    by_cases b : j < to
    · rw [if_pos b, List.getElem?_append_left (by omega)]
    · rw [if_neg b, List.getElem?_append_right (by omega), List.getElem?_drop]
      congr 2; omega

/-- The row of a text under way. -/
def RowIs (w : World) (bb : Nat) (l : List UInt8) : Prop := ∀ j, j < 19 → w.cell? ⟨bb, j, none⟩ = some (.int .u8 ((l.getD j 0).toNat : Int)) ∧ w.frozen? ⟨bb, j, none⟩ = false
theorem RowIs.below {w w' : World} {bb : Nat} {l : List UInt8} (h : RowIs w bb l) (hb : Below w.heap.size w w') : RowIs w' bb l := fun j hj => by
  obtain ⟨a, b⟩ := h j hj
  have l := World.block_lt_of_cell? w _ a
  exact ⟨(hb.cell (p := ⟨bb, j, none⟩) l).trans a, (hb.frozen (p := ⟨bb, j, none⟩) l).trans b⟩
theorem frozen_setCells (b : Nat) : ∀ (vs : List Value) (o : Nat) (w : World) (x : Addr), (w.setCells b o vs).frozen? x = w.frozen? x
  | [], _, _, _ => rfl
  | v :: r, o, w, x => by
    show ((w.setCell ⟨b, o, none⟩ v).setCells b (o + 1) r).frozen? x = _
    rw [frozen_setCells b r (o + 1), World.frozen?_setCell]
theorem RowIs.put {w : World} {bb : Nat} {l : List UInt8} (h : RowIs w bb l) (hl : l.length = 19) (s : List UInt8) (to : Nat) (h1 : s.length ≤ to) (h2 : to ≤ 19) :
    RowIs (w.setCells bb (to - s.length) (s.map fun x => Value.int .u8 (x.toNat : Int))) bb (put l s to) := fun j hj => by
  refine ⟨?_, (frozen_setCells _ _ _ _ _).trans (h j hj).2⟩
  rw [put_getD l s to j h1 (by omega)]
  by_cases a : j < to - s.length
  · rw [if_pos a, World.cell?_setCells_out _ _ _ _ _ (fun _ _ => .inl a)]; exact (h j hj).1
  · rw [if_neg a]
    by_cases b : j < to
    · rw [if_pos b]
      have hh := World.cell?_setCells_in bb (s.map fun x => Value.int .u8 (x.toNat : Int)) (to - s.length) w (fun k hk => by
        simp at hk
        rw [(h (to - s.length + k) (by omega)).1]; rfl) (j - (to - s.length)) (by simp; omega)
      rw [show to - s.length + (j - (to - s.length)) = j from by omega] at hh
      rw [hh]
      simp [List.getD_eq_getElem?_getD, List.getElem?_eq_getElem (show j - (to - s.length) < s.length by omega)]
    · rw [if_neg b, World.cell?_setCells_out _ _ _ _ _ (fun _ _ => .inr (by simp; omega))]; exact (h j hj).1

theorem parts_t (p0 p1 p2 p3 p4 p5 : Int) (w : World) :
    Calls Tryd.prog 32 #[.agg #[.int .i64 p0, .int .i64 p1, .int .i64 p2, .int .i64 p3, .int .i64 p4, .int .i64 p5]] w fun e w' => e = .returned (.agg #[.int .i64 p0, .int .i64 p1, .int .i64 p2, .int .i64 p3, .int .i64 p4, .int .i64 p5]) ∧ Below w.heap.size w w' := by
  go_enter Tryd.func32, Tryd.ntmps32
  go_wp2_with fail
  exact bodyPost_ret (v := .agg #[.int .i64 p0, .int .i64 p1, .int .i64 p2, .int .i64 p3, .int .i64 p4, .int .i64 p5]) (by simp only [results, Tryd.results32]; go_simp) rfl ⟨rfl, by (repeat (with_reducible refine Below.setCell ?_ (by simp <;> omega) _)); exact (((Below.refl _ _).alloc (Nat.le_refl _) _).alloc (by simp) _)⟩

theorem rowIs_form (w : World) (ty : TypeId) : RowIs (w.alloc (.cells #[.int .u8 48, .int .u8 48, .int .u8 48, .int .u8 48, .int .u8 45, .int .u8 48, .int .u8 48, .int .u8 45, .int .u8 48, .int .u8 48, .int .u8 84, .int .u8 48, .int .u8 48, .int .u8 58, .int .u8 48, .int .u8 48, .int .u8 58, .int .u8 48, .int .u8 48] ty (19, 20))) w.heap.size form := fun j hj => by
  refine ⟨?_, by rw [World.frozen?_alloc_mark]; rw [decide_eq_false (show ¬ 19 ≤ j by omega)]; rfl⟩
  rw [World.cell?_alloc_mark]
  obtain rfl | rfl | rfl | rfl | rfl | rfl | rfl | rfl | rfl | rfl | rfl | rfl | rfl | rfl | rfl | rfl | rfl | rfl | rfl : j = 0 ∨ j = 1 ∨ j = 2 ∨ j = 3 ∨ j = 4 ∨ j = 5 ∨ j = 6 ∨ j = 7 ∨ j = 8 ∨ j = 9 ∨ j = 10 ∨ j = 11 ∨ j = 12 ∨ j = 13 ∨ j = 14 ∨ j = 15 ∨ j = 16 ∨ j = 17 ∨ j = 18 := by omega
  all_goals rfl

set_option maxRecDepth 100000 in
set_option maxHeartbeats 4000000 in
theorem text_t (p : Nat → Int) (w : World) (ht : Tab w)
    (HR : Hid (∀ W, Calls Tryd.prog 31 #[.agg #[.int .i64 (p 0), .int .i64 (p 1), .int .i64 (p 2), .int .i64 (p 3), .int .i64 (p 4), .int .i64 (p 5)]] W fun e w' => e = .returned (.bool true) ∧ Below W.heap.size W w'))
    (hp : ∀ k, k < 6 → 0 ≤ p k ∧ p k ≤ 10000 ∧ (Lib.itoa (p k)).length ≤ 4 + 3 * k ∧ 0 < (Lib.itoa (p k)).length) :
    Calls Tryd.prog 16 #[.agg #[.int .i64 (p 0), .int .i64 (p 1), .int .i64 (p 2), .int .i64 (p 3), .int .i64 (p 4), .int .i64 (p 5)]] w fun e w' => e = .returned (.string ⟨(txt p 6).toArray⟩) ∧ Below w.heap.size w w' := by
  have HP := Lib.hid hp
  have HL := Lib.hid (txt_len p (fun k hk => (hp k hk).2.2.1))
  have HT := Lib.hid (fun (w' : World) (hb : Below w.heap.size w w') => ht.below hb)
  clear hp ht
  have kc := fun (w : World) (C : Array Value) (n c : Nat) => Lib.run_convert_bytes_const (P := Tryd.prog) w 74 5 C n c Tryd.underlying74 Tryd.underlying5
  go_enter Tryd.func16, Tryd.ntmps16
  go_wp2_with fail
  refine (HR.out _).mono ?_
  rintro e w1 ⟨rfl, hb1⟩
  obtain ⟨hc1, hf1⟩ := bone hb1 w.heap.size (by simp)
  have hz1 : w.heap.size < w1.heap.size := by have := hb1.size; simp at this; omega
  go_wp2_with fail
  refine (parts_t _ _ _ _ _ _ _).mono ?_
  rintro e w2 ⟨rfl, hb2⟩
  have HW := Lib.hid ((rowIs_form w1 5).below hb2)
  go_wp2_with fail
  have hB2 : Hid (Below w.heap.size w w2) := ((((Below.refl _ _).alloc (Nat.le_refl _) _).trans (hb1.mono (by simp))).alloc (by omega) _).trans (hb2.mono (by simp; omega))
  have hZ2 : w1.heap.size < w2.heap.size := by have := hb2.size; simp at this; omega
  clear hb1 hb2 hc1 hf1
  obtain ⟨bb, hbb⟩ : ∃ bb, bb = w1.heap.size := ⟨_, rfl⟩
  rw [← hbb] at HW hZ2 ⊢
  have hbbge : w.heap.size ≤ bb := by omega
  clear hbb hz1
  have hix : ∀ (k : Nat) (W : World), k < 6 → (Instr.index 75 (.agg #[.int .i64 (p 0), .int .i64 (p 1), .int .i64 (p 2), .int .i64 (p 3), .int .i64 (p 4), .int .i64 (p 5)]) (.int .i64 (k : Int))).run Tryd.prog W = .ok (.int .i64 (p k)) W := by
    intro k W hk
    obtain rfl | rfl | rfl | rfl | rfl | rfl : k = 0 ∨ k = 1 ∨ k = 2 ∨ k = 3 ∨ k = 4 ∨ k = 5 := by omega
    all_goals rfl
  have HX := Lib.hid hix; clear hix
  go_loopw [15] (fun i wr => ∃ k : Nat, k ≤ 6 ∧ i = .int .i64 k ∧ Hid (RowIs wr bb (txt p k)) ∧ bb < wr.heap.size ∧ Hid (Below w.heap.size w wr)) (fun i _ => 6 - (intOf i).toNat)
  case atStart => exact ⟨0, by omega, rfl, HW, hZ2, hB2⟩
  case round =>
    obtain ⟨k, hk, rfl, hr, hz, hb⟩ := hrel
    by_cases hlt : k < 6
    · have hi := HX.out k
      have hp6 := HP.out k hlt
      go_wp2_with fail
      refine (itoa_t (p k) hp6.1 (by omega) _ (HT.out _ hb.out)).mono ?_
      rintro e w3 ⟨s, rfl, hs, hb3⟩
      have HS := Lib.hid hs
      have hsz : s.size = (Lib.itoa (p k)).length := by rw [← hs]; simp
      have hle : s.size ≤ 4 + 3 * k := by omega
      have hlo : 4 + 3 * k - s.size < 19 := by omega
      have hlo2 : ¬ (19 = 4 + 3 * k - s.size) := by omega
      have hlo3 : ¬ (4 + 3 * k - s.size = 19) := by omega
      have hlo4 : ¬ (19 - (4 + 3 * k - s.size) = 0) := by omega
      clear hs
      have hr3 := hr.out.below (hb3.mono (Nat.le_refl _))
      have hcp := Go.run_copy_string (P := Tryd.prog) w3 74 9 3 5 bb (4 + 3 * k - s.size) (19 - (4 + 3 * k - s.size)) (19 - (4 + 3 * k - s.size)) s Tryd.underlying74 (fun w => by go_simp) (by omega)
        (fun j hj => by rw [(hr3 (4 + 3 * k - s.size + j) (by omega)).1]; rfl) (fun j hj => (hr3 (4 + 3 * k - s.size + j) (by omega)).2)
      have hr3q := Lib.hid (hr3.put (HL.out k hk) (Lib.itoa (p k)) (4 + 3 * k) (by omega) (by omega))
      have hsl : (Lib.itoa (p k)).length = s.size := by omega
      rw [hsl] at hr3q
      clear hr3 hsl hsz
      go_wp2_with fail
      go_round
      case rel => exact ⟨k + 1, by omega, by go_num, (by
          have hq := hr3q.out
          rw [HS.out]; exact hq), (by
          have := (below_setCells (a := w3) (Nat.zero_le bb) (List.map (fun x => Value.int IntKind.u8 ↑x.toNat) s.data.toList) (4 + 3 * k - s.size) w3 (Below.refl _ _)).size
          have := hb3.size
          omega), below_setCells hbbge _ _ _ (hb.out.trans (hb3.mono hb.out.size))⟩
      case measure => simp [intOf]; omega
    · obtain rfl : k = 6 := by omega
      have hlen := HL.out 6 (Nat.le_refl _)
      have kb := Go.run_convert_bytes_arg (P := Tryd.prog) wr 74 5 Tryd.underlying74 Tryd.underlying5 bb 0 19 19 ((txt p 6).map fun x => (x.toNat : Int)) (by simpa using hlen)
        (fun i hi => by rw [Nat.zero_add, (hr.out i hi).1, Go.Lib.Lz.getD_map, List.getD_eq_getElem?_getD]) 9 Tryd.underlying9
      rw [Go.Lib.Lz.strOfNums_map] at kb
      clear hlen
      go_wp2_with fail
      go_ret
      exact ⟨rfl, hb.out⟩

/-- The numbers of a label, by place. -/
def six (y m d h mi s : Int) : Nat → Int := fun k => if k = 0 then y else if k = 1 then m else if k = 2 then d else if k = 3 then h else if k = 4 then mi else s

theorem dig0 (u : Nat) (h : u < 10) : Lib.decDigits u = [UInt8.ofNat (48 + u)] := by
  rw [Lib.decDigits]; simp [h]
theorem itoa_vals : Lib.itoa 2016 = [50, 48, 49, 54] ∧ Lib.itoa 2017 = [50, 48, 49, 55] ∧ Lib.itoa 12 = [49, 50] ∧ Lib.itoa 31 = [51, 49] ∧ Lib.itoa 23 = [50, 51] ∧ Lib.itoa 59 = [53, 57] ∧ Lib.itoa 60 = [54, 48] ∧ Lib.itoa 1 = [49] ∧ Lib.itoa 0 = [48] := by
  refine ⟨?_, ?_, ?_, ?_, ?_, ?_, ?_, ?_, ?_⟩ <;> (unfold Lib.itoa; simp; repeat (rw [Lib.decDigits]; simp))
theorem six_at (y m d h mi s : Int) : six y m d h mi s 0 = y ∧ six y m d h mi s 1 = m ∧ six y m d h mi s 2 = d ∧ six y m d h mi s 3 = h ∧ six y m d h mi s 4 = mi ∧ six y m d h mi s 5 = s := ⟨rfl, rfl, rfl, rfl, rfl, rfl⟩

theorem text_a (w : World) (ht : Tab w) :
    Calls Tryd.prog 16 #[.agg #[.int .i64 2016, .int .i64 12, .int .i64 31, .int .i64 23, .int .i64 59, .int .i64 60]] w fun e w' => e = .returned (.string ⟨#[50, 48, 49, 54, 45, 49, 50, 45, 51, 49, 84, 50, 51, 58, 53, 57, 58, 54, 48]⟩) ∧ Below w.heap.size w w' := by
  have h := text_t (six 2016 12 31 23 59 60) w ht (Lib.hid fun W => right_leap 2016 12 31 W (by omega) (by omega) (by omega) (by omega) (by omega) (by decide)) (by
    intro k hk
    obtain rfl | rfl | rfl | rfl | rfl | rfl : k = 0 ∨ k = 1 ∨ k = 2 ∨ k = 3 ∨ k = 4 ∨ k = 5 := by omega
    all_goals simp [six_at, itoa_vals])
  have e : (txt (six 2016 12 31 23 59 60) 6).toArray = #[50, 48, 49, 54, 45, 49, 50, 45, 51, 49, 84, 50, 51, 58, 53, 57, 58, 54, 48] := by
    simp [txt, six_at, itoa_vals, put, form]
  rw [e] at h
  exact h

theorem text_b (w : World) (ht : Tab w) :
    Calls Tryd.prog 16 #[.agg #[.int .i64 2017, .int .i64 1, .int .i64 1, .int .i64 0, .int .i64 0, .int .i64 0]] w fun e w' => e = .returned (.string ⟨#[50, 48, 49, 55, 45, 48, 49, 45, 48, 49, 84, 48, 48, 58, 48, 48, 58, 48, 48]⟩) ∧ Below w.heap.size w w' := by
  have h := text_t (six 2017 1 1 0 0 0) w ht (Lib.hid fun W => right_t 2017 1 1 0 0 0 W (by omega) (by omega) (by omega) (by omega) (by omega) (by decide) (by omega) (by omega) (by omega) (by omega) (by omega) (by omega)) (by
    intro k hk
    obtain rfl | rfl | rfl | rfl | rfl | rfl : k = 0 ∨ k = 1 ∨ k = 2 ∨ k = 3 ∨ k = 4 ∨ k = 5 := by omega
    all_goals simp [six_at, itoa_vals])
  have e : (txt (six 2017 1 1 0 0 0) 6).toArray = #[50, 48, 49, 55, 45, 48, 49, 45, 48, 49, 84, 48, 48, 58, 48, 48, 58, 48, 48] := by
    simp [txt, six_at, itoa_vals, put, form]
  rw [e] at h
  exact h
end Go.Proofs.YtmjmoihggojpiaaDoor
