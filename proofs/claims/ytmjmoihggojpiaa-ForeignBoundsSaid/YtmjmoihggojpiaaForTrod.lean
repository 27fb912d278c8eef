/- What a law's arguments are: clocks, ports, sets, calls, scripts. -/
import Derived.Test.YtmjmoihggojpiaaForEnds
import Derived.OpenShut
import Derived.Deep.Slices
import Derived.Deep.Strs
set_option linter.unusedSimpArgs false
set_option linter.unusedVariables false
namespace Go.Proofs.Ytmjmoihggojpiaa
open Go Go.Maps Go.RowKit Go.Shelf Go.Sort Go.Lib Go.ChangeShapes Go.WideShapes

section
variable {H : Type} {enc : TypeId × Value → H} {w : World} {base : Nat} {spare : Nat → Bool} {held : Bool} {fuel : Nat} {cs : List Value} {x : DataW H × List MemPlace}

theorem some_of {α : Type} {o : Option α} {xs : List α} {i n : Nat} (h : o = xs[i]?) (hl : xs.length = n) (hi : i < n) : ∃ y, o = some y := ⟨xs[i], by rw [h]; exact List.getElem?_eq_getElem (by omega)⟩
theorem piece {α : Type} (cs : List α) (a b c : Nat) (hc : c = a + b) : cs.drop a = (cs.drop a).take b ++ cs.drop c := by
  rw [hc, ← List.drop_drop, List.take_append_drop]
theorem len8v {α : Type} {l : List α} (h : l.length = 8) : ∃ a b c d e f g i, l = [a, b, c, d, e, f, g, i] := by
  match l, h with
  | [a, b, c, d, e, f, g, i], _ => exact ⟨a, b, c, d, e, f, g, i, rfl⟩
theorem take_one {cs : List Value} {i : Nat} {v : Value} (h : (cs.drop i).take 1 = [v]) : cs[i]? = some v := by
  have := congrArg (·[0]?) h
  simpa using this
theorem bnd8 {n : Int} (h : (Lit.int .u8 n).wf = true) : 0 ≤ n ∧ n < 256 := by
  simp [Lit.wf, IntKind.min, IntKind.max, IntKind.signed, IntKind.bits] at h
  omega
theorem bnd64 {n : Int} (h : (Lit.int .i64 n).wf = true) : -9223372036854775808 ≤ n ∧ n ≤ 9223372036854775807 := by
  simp [Lit.wf, IntKind.min, IntKind.max, IntKind.signed, IntKind.bits] at h
  omega
theorem trod_u8 (h : DataW.trod enc Try.prog w base spare held fuel 5 cs = some x) : ∃ n, cs = [.int .u8 n] ∧ 0 ≤ n ∧ n < 256 := by
  obtain ⟨n, e, -, hw⟩ := DataW.trod_int Try.underlying5 h
  exact ⟨n, e, bnd8 hw⟩
theorem trod_i64 (h : DataW.trod enc Try.prog w base spare held fuel 3 cs = some x) : ∃ n, cs = [.int .i64 n] ∧ -9223372036854775808 ≤ n ∧ n ≤ 9223372036854775807 := by
  obtain ⟨n, e, -, hw⟩ := DataW.trod_int Try.underlying3 h
  exact ⟨n, e, bnd64 hw⟩

theorem trod_clock (h : DataW.trod enc Try.prog w base spare held fuel 23 cs = some x) : ∃ l : List Int, l.length = 8 ∧ (∀ y ∈ l, 0 ≤ y ∧ y < 256) ∧ cs = encC l := by
  obtain ⟨xs, m, -, -, hl, hlen, hf⟩ := DataW.trod_array Try.underlying23 h
  rw [cellsClock] at hl
  have key : ∀ i, i < 8 → ∃ n, cs[i]? = some (.int .u8 n) ∧ 0 ≤ n ∧ n < 256 := fun i hi => by
    obtain ⟨y, hy⟩ := some_of (hf i hi) hlen hi
    rw [cellsU8, Nat.mul_one] at hy
    obtain ⟨n, e, hn⟩ := trod_u8 hy
    exact ⟨n, take_one e, hn⟩
  obtain ⟨n0, e0, b0⟩ := key 0 (by omega)
  obtain ⟨n1, e1, b1⟩ := key 1 (by omega)
  obtain ⟨n2, e2, b2⟩ := key 2 (by omega)
  obtain ⟨n3, e3, b3⟩ := key 3 (by omega)
  obtain ⟨n4, e4, b4⟩ := key 4 (by omega)
  obtain ⟨n5, e5, b5⟩ := key 5 (by omega)
  obtain ⟨n6, e6, b6⟩ := key 6 (by omega)
  obtain ⟨n7, e7, b7⟩ := key 7 (by omega)
  refine ⟨[n0, n1, n2, n3, n4, n5, n6, n7], rfl, by simp [b0, b1, b2, b3, b4, b5, b6, b7], ?_⟩
  obtain ⟨c0, c1, c2, c3, c4, c5, c6, c7, rfl⟩ := len8v hl
  simp at e0 e1 e2 e3 e4 e5 e6 e7
  simp [encC, e0, e1, e2, e3, e4, e5, e6, e7]
theorem trod_port (h : DataW.trod enc Try.prog w base spare held fuel 29 cs = some x) : ∃ p : Pt, p.ok ∧ cs = encP p := by
  obtain ⟨y0, y1, n, -, hl, h0, h1⟩ := trod_struct2 Try.underlying29 h
  rw [cellsPort] at hl
  obtain ⟨l, l8, lb, e0⟩ := trod_clock h0
  obtain ⟨m, e1, hm⟩ := trod_i64 h1
  rw [cellsClock] at e0
  rw [cellsInt] at e1
  obtain ⟨a, b, c, d, e, f, g, i, rfl⟩ := len8 l8
  refine ⟨⟨a, b, c, d, e, f, g, i, m⟩, ⟨lb, hm⟩, ?_⟩
  have p0 := piece cs 0 8 8 rfl
  have p1 := piece cs 8 1 9 rfl
  rw [List.drop_zero] at p0
  have : cs.drop 9 = [] := List.drop_eq_nil_of_le (by omega)
  rw [p0, p1, this]
  have e0' : cs.take 8 = encC [a, b, c, d, e, f, g, i] := by simpa using e0
  rw [e0', show (cs.drop 8).take 1 = [.int .i64 m] from e1]
  rfl
theorem trod_set (h : DataW.trod enc Try.prog w base spare held fuel 31 cs = some x) : ∃ s : St, s.sender.ok ∧ s.recv.ok ∧ cs = encS s := by
  obtain ⟨xs, n, -, -, hl, hlen, hf⟩ := DataW.trod_struct Try.underlying31 h
  rw [show Try.prog.cellsOf 31 = 32 by kernel_rfl] at hl
  obtain ⟨y0, h0⟩ := some_of (hf 0 _ rfl) hlen (by decide)
  obtain ⟨y1, h1⟩ := some_of (hf 1 _ rfl) hlen (by decide)
  obtain ⟨y2, h2⟩ := some_of (hf 2 _ rfl) hlen (by decide)
  obtain ⟨y3, h3⟩ := some_of (hf 3 _ rfl) hlen (by decide)
  obtain ⟨y4, h4⟩ := some_of (hf 4 _ rfl) hlen (by decide)
  obtain ⟨y5, h5⟩ := some_of (hf 5 _ rfl) hlen (by decide)
  obtain ⟨y6, h6⟩ := some_of (hf 6 _ rfl) hlen (by decide)
  obtain ⟨p1, e0, -⟩ := trod_i64 h0
  obtain ⟨p2, e1, -⟩ := trod_i64 h1
  obtain ⟨z0, z1, z2, n', -, ql, q0, q1, q2⟩ := Deep.trod_struct3 Try.underlying27 h2
  obtain ⟨c0, f0, -⟩ := trod_i64 q0
  obtain ⟨c1, f1, -⟩ := trod_i64 q1
  obtain ⟨c2, f2, -⟩ := trod_i64 q2
  obtain ⟨l, l8, lb, e3⟩ := trod_clock h3
  obtain ⟨st, e4, -⟩ := trod_i64 h4
  obtain ⟨a, ha, e5⟩ := trod_port h5
  obtain ⟨b, hb, e6⟩ := trod_port h6
  replace e0 : (cs.drop 0).take (Try.prog.cellsOf 3) = _ := e0
  replace e1 : (cs.drop 1).take (Try.prog.cellsOf 3) = _ := e1
  replace f0 : (((cs.drop 2).take (Try.prog.cellsOf 27)).drop 0).take (Try.prog.cellsOf 3) = _ := f0
  replace f1 : (((cs.drop 2).take (Try.prog.cellsOf 27)).drop 1).take (Try.prog.cellsOf 3) = _ := f1
  replace f2 : (((cs.drop 2).take (Try.prog.cellsOf 27)).drop 2).take (Try.prog.cellsOf 3) = _ := f2
  replace e3 : (cs.drop 5).take (Try.prog.cellsOf 23) = _ := e3
  replace e4 : (cs.drop 13).take (Try.prog.cellsOf 3) = _ := e4
  replace e5 : (cs.drop 14).take (Try.prog.cellsOf 29) = _ := e5
  replace e6 : (cs.drop 23).take (Try.prog.cellsOf 29) = _ := e6
  rw [show Try.prog.cellsOf 27 = 3 by kernel_rfl] at f0 f1 f2
  rw [cellsInt] at e0 e1 e4 f0 f1 f2
  rw [cellsClock] at e3
  rw [cellsPort] at e5 e6
  have f0' := take_one f0
  have f1' := take_one f1
  have f2' := take_one f2
  rw [List.getElem?_take_of_lt (by omega), List.getElem?_drop] at f0' f1' f2'
  have r0 := take_one e0
  have r1 := take_one e1
  have r4 := take_one e4
  obtain ⟨g0, g1, g2, g3, g4, g5, g6, g7, rfl⟩ := len8 l8
  refine ⟨⟨p1, p2, c0, c1, c2, g0, g1, g2, g3, g4, g5, g6, g7, st, a, b⟩, ha, hb, ?_⟩
  have q2 : (cs.drop 2).take 3 = [.int .i64 c0, .int .i64 c1, .int .i64 c2] := by
    refine List.ext_getElem? fun i => ?_
    by_cases hi : i < 3
    · rw [List.getElem?_take_of_lt hi, List.getElem?_drop]
      obtain rfl | rfl | rfl : i = 0 ∨ i = 1 ∨ i = 2 := by omega
      · exact f0'
      · exact f1'
      · exact f2'
    · rw [List.getElem?_eq_none (by rw [List.length_take]; omega), List.getElem?_eq_none (by simp; omega)]
  have z := piece cs 0 1 1 rfl
  rw [List.drop_zero] at z
  rw [z, piece cs 1 1 2 rfl, piece cs 2 3 5 rfl, piece cs 5 8 13 rfl, piece cs 13 1 14 rfl, piece cs 14 9 23 rfl, piece cs 23 9 32 rfl, show cs.drop 32 = [] from List.drop_eq_nil_of_le (by omega)]
  rw [show cs.take 1 = [.int .i64 p1] by simpa using e0, e1, q2, e3, e4, e5, e6]
  rfl
theorem trod_op (h : DataW.trod enc Try.prog w base spare held fuel 45 cs = some x) : ∃ o : Op8, o.ok ∧ cs = encO o := by
  obtain ⟨y0, y1, y2, n, -, hl, h0, h1, h2⟩ := Deep.trod_struct3 Try.underlying45 h
  rw [show Try.prog.cellsOf 45 = 34 by kernel_rfl] at hl
  obtain ⟨kd, e0, -⟩ := trod_i64 h0
  obtain ⟨nw, e1, hn⟩ := trod_i64 h1
  obtain ⟨s, hs, -, e2⟩ := trod_set h2
  replace e0 : (cs.drop 0).take (Try.prog.cellsOf 3) = _ := e0
  replace e1 : (cs.drop 1).take (Try.prog.cellsOf 3) = _ := e1
  replace e2 : (cs.drop 2).take (Try.prog.cellsOf 31) = _ := e2
  rw [cellsInt] at e0 e1
  rw [show Try.prog.cellsOf 31 = 32 by kernel_rfl] at e2
  refine ⟨⟨kd, nw, s⟩, ⟨hs, hn⟩, ?_⟩
  have z := piece cs 0 1 1 rfl
  rw [List.drop_zero] at z
  rw [z, piece cs 1 1 2 rfl, piece cs 2 32 34 rfl, show cs.drop 34 = [] from List.drop_eq_nil_of_le (by omega)]
  rw [show cs.take 1 = [.int .i64 kd] by simpa using e0, e1, e2]
  simp [encO]
theorem trod_seat (h : DataW.trod enc Try.prog w base spare held fuel 25 cs = some x) : ∃ (own : List Int) (every : Int), own.length = 8 ∧ (∀ y ∈ own, 0 ≤ y ∧ y < 256) ∧ (-9223372036854775808 ≤ every ∧ every ≤ 9223372036854775807) ∧ cs = encC own ++ [.int .i64 every] := by
  obtain ⟨y0, y1, n, -, hl, h0, h1⟩ := trod_struct2 Try.underlying25 h
  rw [show Try.prog.cellsOf 25 = 9 by kernel_rfl] at hl
  obtain ⟨l, l8, lb, e0⟩ := trod_clock h0
  obtain ⟨ev, e1, hv⟩ := trod_i64 h1
  replace e0 : (cs.drop 0).take (Try.prog.cellsOf 23) = _ := e0
  replace e1 : (cs.drop 8).take (Try.prog.cellsOf 3) = _ := e1
  rw [cellsClock] at e0
  rw [cellsInt] at e1
  refine ⟨l, ev, l8, lb, hv, ?_⟩
  have z := piece cs 0 8 8 rfl
  rw [List.drop_zero] at z
  rw [z, piece cs 8 1 9 rfl, show cs.drop 9 = [] from List.drop_eq_nil_of_le (by omega)]
  rw [show cs.take 8 = encC l by simpa using e0, e1]
  simp
theorem spot_none {w : World} {a : Addr} {v : Value} (h : w.cell? a = some v) : a.spot = none := by
  obtain ⟨b, off, spot⟩ := a
  cases spot with
  | none => rfl
  | some x =>
    exfalso
    simp only [World.cell?] at h
    split at h <;> simp at h
theorem trod_script (h : DataW.trod enc Try.prog w base spare held fuel 43 cs = some x) : ∃ (v : Value) (os : List Op8), cs = [v] ∧ (∀ o ∈ os, o.ok) ∧ OpsAt w v os := by
  rcases Deep.open_slice Try.underlying43 h with ⟨rfl, -⟩ | ⟨a, len, cap, m, n, D, Pl, rfl, hb, hlc, hcm, hm, -, hel⟩
  · exact ⟨_, [], rfl, by simp, none, 0, rfl, fun i hi => by simp at hi⟩
  · have c34 : Try.prog.cellsOf 45 = 34 := by kernel_rfl
    rw [c34] at hel
    have hlm : len ≤ m := by rw [hm]; split <;> omega
    rcases Nat.eq_zero_or_pos len with hz | hpos
    · subst hz
      exact ⟨_, [], rfl, by simp, some a, cap, rfl, fun i hi => by simp at hi⟩
    · obtain ⟨cs0, k1, k2⟩ := hel 0 (by omega)
      obtain ⟨oz, -, rfl⟩ := trod_op k2
      obtain ⟨-, -, k3⟩ := World.cells?_some k1
      have k4 := k3 0 (by omega)
      have a0 : ∀ z : Addr, z.add 0 = z := fun z => by unfold Addr.add; simp
      rw [Nat.zero_mul, a0, a0] at k4
      have hsp := spot_none (k4.trans (rfl : (encO oz)[0]? = some (.int .i64 oz.kind)))
      obtain ⟨b, off, spot⟩ := a
      simp only at hsp
      subst hsp
      have hlt : b < w.heap.size := World.block_lt_of_cell? w _ (k4.trans (rfl : (encO oz)[0]? = some (.int .i64 oz.kind)))
      have key : ∀ i, i < len → ∃ o : Op8, o.ok ∧ w.rangeAt b (off + i * 34) (encO o) := fun i hi => by
        obtain ⟨cs', h1, h2⟩ := hel i (by omega)
        obtain ⟨o, ho, rfl⟩ := trod_op h2
        obtain ⟨-, -, hc⟩ := World.cells?_some h1
        refine ⟨o, ho, fun j v hv => ?_⟩
        have hj : j < 34 := (List.getElem?_eq_some_iff.1 hv).1
        have := hc j hj
        rw [Addr.add_mid, Addr.add_mid] at this
        exact this.trans hv
      classical
      have hpick : ∀ i, i < len → ∃ o : Op8, o.ok ∧ w.rangeAt b (off + i * 34) (encO o) := key
      refine ⟨_, (List.range len).map fun i => if h : i < len then Classical.choose (hpick i h) else default, rfl, fun o ho => ?_, some ⟨b, off, none⟩, cap, by simp, fun i hi => ⟨b, off, rfl, hlt, ?_⟩⟩
      · obtain ⟨i, hi, rfl⟩ := List.mem_map.1 ho
        have hi' : i < len := by simpa using hi
        simp only [dif_pos hi']
        exact (Classical.choose_spec (hpick i hi')).1
      · have hi' : i < len := by simpa using hi
        have e : ((List.range len).map fun i => if h : i < len then Classical.choose (hpick i h) else default)[i]! = Classical.choose (hpick i hi') := by
          rw [getElem!_pos _ i (by simpa using hi')]
          simp [hi']
        rw [e]
        exact (Classical.choose_spec (hpick i hi')).2
end
end Go.Proofs.Ytmjmoihggojpiaa
