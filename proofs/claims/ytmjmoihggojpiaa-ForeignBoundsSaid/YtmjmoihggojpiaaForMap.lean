/- A map keyed by ports, of pointers to blocks: as a list of ports and blocks. -/
import Derived.Test.YtmjmoihggojpiaaForPlain
import Derived.Maps.Keyed
import Derived.Maps.OwnSet
import Derived.Maps.RangeWalk
import Derived.DeepKeys4
import Derived.Below
import Derived.KernelRfl
set_option linter.unusedSimpArgs false
set_option linter.unusedVariables false
namespace Go.Proofs.Ytmjmoihggojpiaa
open Go Go.Maps Go.RowKit
open Go.WideElems (Fit rd rg pl)

def Pt.ok (p : Pt) : Prop := (∀ x ∈ p.clock, 0 ≤ x ∧ x < 256) ∧ -9223372036854775808 ≤ p.n ∧ p.n ≤ 9223372036854775807
def pv (p : Pt) : Value := .agg (encP p).toArray
def bp (g : Nat) : Value := .pointer (some ⟨g, 0, none⟩)

theorem laidOut : laidOutB Try.prog = true := by kernel_rfl
theorem portLaw : Keyed Try.prog 29 := Keyed.of_law (deep_law_laid laidOut (m := 3) (by omega) (of_decide_eq_true (by kernel_rfl)) (by kernel_rfl) (by kernel_rfl))

theorem wf8 {x : Int} (h : 0 ≤ x ∧ x < 256) : (Lit.int .u8 x).wf = true := by
  have e1 : IntKind.u8.min = 0 := by kernel_rfl
  have e2 : IntKind.u8.max = 255 := by kernel_rfl
  simp [Lit.wf, e1, e2]; omega
theorem wf64 {x : Int} (h : -9223372036854775808 ≤ x ∧ x ≤ 9223372036854775807) : (Lit.int .i64 x).wf = true := by
  have e1 : IntKind.i64.min = -9223372036854775808 := by kernel_rfl
  have e2 : IntKind.i64.max = 9223372036854775807 := by kernel_rfl
  simp [Lit.wf, e1, e2]; omega
theorem cellsU8 : Try.prog.cellsOf 5 = 1 := by kernel_rfl
theorem cellsInt : Try.prog.cellsOf 3 = 1 := by kernel_rfl
theorem cellsClock : Try.prog.cellsOf 23 = 8 := by kernel_rfl
theorem cellsPort : Try.prog.cellsOf 29 = 9 := by kernel_rfl

theorem lits8 (d : Nat) {x : Int} (h : 0 ≤ x ∧ x < 256) : Try.prog.keyLits (d + 1) 5 [.int .u8 x] = some [.int .u8 x] := by
  have := wf8 h
  simp [Program.keyLits, Try.underlying5, this]
theorem lits64 (d : Nat) {x : Int} (h : -9223372036854775808 ≤ x ∧ x ≤ 9223372036854775807) : Try.prog.keyLits (d + 1) 3 [.int .i64 x] = some [.int .i64 x] := by
  have := wf64 h
  simp [Program.keyLits, Try.underlying3, this]
theorem litsClock (d : Nat) (p : Pt) (h : ∀ x ∈ p.clock, 0 ≤ x ∧ x < 256) :
    Try.prog.keyLits (d + 1 + 1) 23 [.int .u8 p.a0, .int .u8 p.a1, .int .u8 p.a2, .int .u8 p.a3, .int .u8 p.a4, .int .u8 p.a5, .int .u8 p.a6, .int .u8 p.a7] = some [.int .u8 p.a0, .int .u8 p.a1, .int .u8 p.a2, .int .u8 p.a3, .int .u8 p.a4, .int .u8 p.a5, .int .u8 p.a6, .int .u8 p.a7] := by
  simp only [Pt.clock, List.mem_cons, List.not_mem_nil, or_false, forall_eq_or_imp, forall_eq] at h
  obtain ⟨h0, h1, h2, h3, h4, h5, h6, h7⟩ := h
  unfold Program.keyLits
  simp only [Try.underlying23, cellsClock, cellsU8, List.length_cons, List.length_nil, Nat.zero_add, Nat.reduceAdd, if_true]
  rw [show List.range 8 = [0, 1, 2, 3, 4, 5, 6, 7] from rfl]
  simp [List.mapM_cons, lits8 d h0, lits8 d h1, lits8 d h2, lits8 d h3, lits8 d h4, lits8 d h5, lits8 d h6, lits8 d h7]
theorem key_of (p : Pt) (h : p.ok) : ∃ kl, keyOf Try.prog 29 (pv p) = some kl := by
  obtain ⟨h1, h2, h3⟩ := h
  obtain ⟨d, hd⟩ : ∃ d, Try.prog.types.size + 1 = d + 1 + 1 + 1 := ⟨Try.prog.types.size - 2, by
    have : 3 ≤ Try.prog.types.size := of_decide_eq_true (by kernel_rfl)
    omega⟩
  have hl : Try.prog.keyLits (d + 1 + 1 + 1) 29 (encP p) = some [.int .u8 p.a0, .int .u8 p.a1, .int .u8 p.a2, .int .u8 p.a3, .int .u8 p.a4, .int .u8 p.a5, .int .u8 p.a6, .int .u8 p.a7, .int .i64 p.n] := by
    unfold Program.keyLits
    simp only [Try.underlying29, cellsPort]
    rw [if_pos ⟨rfl, by kernel_rfl⟩]
    simp [encP, List.mapM_cons, cellsClock, cellsInt, litsClock d p h1, lits64 (d + 1) ⟨h2, h3⟩]
  unfold keyOf
  rw [Try.underlying29]
  have hk : Try.prog.keyType 29 = true := by kernel_rfl
  have hf : Value.formed Try.prog 29 (pv p) = true := by
    unfold Value.formed pv
    simp only [Try.underlying29, cellsPort]
    rfl
  simp only [hk, hf, Bool.true_and, if_true]
  rw [hd]
  rw [show (pv p).cells.toList = encP p from rfl, hl]
  exact ⟨_, rfl⟩
theorem pv_inj {p q : Pt} (h : pv p = pv q) : p = q := by
  cases p; cases q
  simp [pv, encP] at h
  simp [h]
noncomputable def kL (p : Pt) : Lit := (keyOf Try.prog 29 (pv p)).getD (.bool true)
theorem key_kL {p : Pt} (h : p.ok) : keyOf Try.prog 29 (pv p) = some (kL p) := by
  obtain ⟨kl, hk⟩ := key_of p h
  unfold kL; rw [hk]; rfl
theorem kL_inj {p q : Pt} (hp : p.ok) (hq : q.ok) (h : kL p = kL q) : p = q := by
  have h1 := key_kL hp
  have h2 := key_kL hq
  rw [h] at h1
  exact pv_inj (portLaw.inj h1 h2)

/-- How an element reads: it is not looked at. -/
def anyR : Value → Option (DataW Unit × List MemPlace) := fun _ => some (.nil, [])

/-- Block b is a map of just these ports, each with its block. -/
def MapIs (w : World) (b : Nat) (l : List (Pt × Nat)) : Prop :=
  ∃ es clock, w.heap[b]? = some (.map es clock) ∧ Fit Try.prog 29 anyR es clock ∧ (es.toList.map fun e => (e.key, e.val)).Perm (l.map fun x => (pv x.1, bp x.2)) ∧ (∀ x ∈ l, x.1.ok) ∧ (l.map (·.1)).Nodup

theorem MapIs.perm {w : World} {b : Nat} {l l' : List (Pt × Nat)} (h : MapIs w b l) (hp : l.Perm l') : MapIs w b l' := by
  obtain ⟨es, clock, h1, h2, h3, h4, h5⟩ := h
  exact ⟨es, clock, h1, h2, h3.trans (hp.map _), fun x hx => h4 x (hp.mem_iff.2 hx), (hp.map _).nodup_iff.1 h5⟩
theorem MapIs.lt {w : World} {b : Nat} {l : List (Pt × Nat)} (h : MapIs w b l) : b < w.heap.size := by
  obtain ⟨es, clock, hb, _⟩ := h
  exact (Array.getElem?_eq_some_iff.1 hb).1
theorem MapIs.of_block {w w' : World} {b : Nat} {l : List (Pt × Nat)} (h : MapIs w b l) (hb : w'.heap[b]? = w.heap[b]?) : MapIs w' b l := by
  obtain ⟨es, clock, h1, h2⟩ := h
  exact ⟨es, clock, hb.trans h1, h2⟩
theorem MapIs.below {w w' : World} {b B : Nat} {l : List (Pt × Nat)} (h : MapIs w b l) (hb : Below B w w') (hlt : b < B) : MapIs w' b l := h.of_block (hb.block b hlt)
theorem MapIs.made (w : World) : MapIs (w.alloc (.map #[] 0)) w.heap.size [] :=
  ⟨#[], 0, (MapKept.heap_alloc w _).1, ⟨by simp, MapKept.stamped_empty 0, by simp⟩, by simp, by simp, by simp⟩

/-- Who stands in the map. -/
theorem MapIs.entry {es : Array MapEntry} {l : List (Pt × Nat)} (hp : (es.toList.map fun e => (e.key, e.val)).Perm (l.map fun x => (pv x.1, bp x.2))) : ∀ e ∈ es.toList, ∃ x ∈ l, e.key = pv x.1 ∧ e.val = bp x.2 := fun e he => by
  have : (e.key, e.val) ∈ l.map fun x => (pv x.1, bp x.2) := hp.mem_iff.1 (List.mem_map.2 ⟨e, he, rfl⟩)
  obtain ⟨x, hx, hxe⟩ := List.mem_map.1 this
  simp only [Prod.mk.injEq] at hxe
  exact ⟨x, hx, hxe.1.symm, hxe.2.symm⟩
theorem MapIs.entry' {es : Array MapEntry} {l : List (Pt × Nat)} (hp : (es.toList.map fun e => (e.key, e.val)).Perm (l.map fun x => (pv x.1, bp x.2))) : ∀ x ∈ l, ∃ e ∈ es.toList, e.key = pv x.1 ∧ e.val = bp x.2 := fun x hx => by
  have : (pv x.1, bp x.2) ∈ es.toList.map fun e => (e.key, e.val) := hp.mem_iff.2 (List.mem_map.2 ⟨x, hx, rfl⟩)
  obtain ⟨e, he, hxe⟩ := List.mem_map.1 this
  simp only [Prod.mk.injEq] at hxe
  exact ⟨e, he, hxe.1, hxe.2⟩
theorem nodup_snd {l : List (Pt × Nat)} (h : (l.map (·.1)).Nodup) {x y : Pt × Nat} (hx : x ∈ l) (hy : y ∈ l) (he : x.1 = y.1) : x = y := by
  induction l with
  | nil => cases hx
  | cons z l ih =>
    simp only [List.map_cons, List.nodup_cons] at h
    rcases List.mem_cons.1 hx with e1 | hx2
    · rcases List.mem_cons.1 hy with e2 | hy2
      · rw [e1, e2]
      · exact absurd (List.mem_map.2 ⟨y, hy2, by rw [← he, e1]⟩) h.1
    · rcases List.mem_cons.1 hy with e2 | hy2
      · exact absurd (List.mem_map.2 ⟨x, hx2, by rw [he, e2]⟩) h.1
      · exact ih h.2 hx2 hy2

theorem zeroPtr (w : World) : (zeroValue 64).run Try.prog w = .ok (.pointer none) w := by kernel_rfl

/-- 'm[p]', p is there. -/
theorem MapIs.look {w : World} {b : Nat} {l : List (Pt × Nat)} (h : MapIs w b l) (c : Bool) {p : Pt} {g : Nat} (hm : (p, g) ∈ l) :
    (Instr.lookup 61 (.map (some b)) (pv p) c).run Try.prog w = .ok (if c then .tuple #[bp g, .bool true] else bp g) w := by
  obtain ⟨es, clock, hb, F, hp, hok, hn⟩ := h
  have hk := key_kL (hok _ hm)
  rcases fit_look c portLaw Try.underlying61 (zeroPtr w) hb F hk with ⟨_, hno, _⟩ | ⟨e0, y, he, hek, hrun, _⟩
  · obtain ⟨e, he, hek, _⟩ := MapIs.entry' hp _ hm
    exact absurd hek (hno e he)
  · obtain ⟨x, hx, h1, h2⟩ := MapIs.entry hp e0 he
    have e1 : x.1 = p := pv_inj (h1.symm.trans hek)
    have e2 := nodup_snd hn hx hm e1
    subst e2
    rw [hrun, h2]
/-- p is not. -/
theorem MapIs.miss {w : World} {b : Nat} {l : List (Pt × Nat)} (h : MapIs w b l) {p : Pt} (hp' : p.ok) (hm : p ∉ l.map (·.1)) :
    (Instr.lookup 61 (.map (some b)) (pv p) true).run Try.prog w = .ok (.tuple #[.pointer none, .bool false]) w := by
  obtain ⟨es, clock, hb, F, hp, hok, hn⟩ := h
  have hk := key_kL hp'
  rcases fit_look true portLaw Try.underlying61 (zeroPtr w) hb F hk with ⟨hrun, _, _⟩ | ⟨e0, y, he, hek, hrun, _⟩
  · exact hrun
  · obtain ⟨x, hx, h1, h2⟩ := MapIs.entry hp e0 he
    have e1 : x.1 = p := pv_inj (h1.symm.trans hek)
    exact absurd (List.mem_map.2 ⟨x, hx, e1⟩) hm

/-- 'm[p] = g', p is not there. -/
theorem MapIs.put {w : World} {b : Nat} {l : List (Pt × Nat)} (h : MapIs w b l) {p : Pt} (hp' : p.ok) (hm : p ∉ l.map (·.1)) (g : Nat) (hl : l.length ≤ 1000) :
    ∃ w', (Instr.mapUpdate 61 (.map (some b)) (pv p) (bp g)).run Try.prog w = .ok () w' ∧ MapIs w' b ((p, g) :: l) ∧ w.grownBy w' (some b) ∧ w'.heap.size = w.heap.size := by
  obtain ⟨es, clock, hb, F, hp, hok, hn⟩ := h
  have hk := key_kL hp'
  have hno : ∀ x ∈ es.toList, x.key ≠ pv p := fun x hx e => by
    obtain ⟨y, hy, h1, _⟩ := MapIs.entry hp x hx
    exact hm (List.mem_map.2 ⟨y, hy, pv_inj (h1.symm.trans e)⟩)
  have hsz : es.size = l.length := by have := hp.length_eq; simpa using this
  rcases portLaw.find w hk es.toList F.keys with ⟨h1, _⟩ | ⟨j, e0, _, h2, h3⟩
  · refine ⟨ChangeMaps.setBlock w b (.map (es.push ⟨pv p, bp g, clock⟩) (clock + 1)), ?_, ⟨es.push ⟨pv p, bp g, clock⟩, clock + 1, ChangeMaps.heap_setBlock_same hb _, ⟨by unfold maxLen; simp; omega, MapKept.stamped_push F.stamped hno, fun x hx => ?_⟩, ?_, ?_, ?_⟩, ?_, by simp [ChangeMaps.setBlock]⟩
    · simp [Instr.mapUpdate, run_underlying Try.underlying61, MapKept.run_getObj_map hb, portLaw.check w false hk, h1, MapKept.run_setObj_map _ hb, Result.andThen, ChangeMaps.setBlock]
    · simp only [Array.toList_push, List.mem_append, List.mem_singleton] at hx
      rcases hx with hx | rfl
      · exact F.reads x hx
      · exact ⟨_, WideElems.rd_mk hk rfl⟩
    · rw [Array.toList_push, List.map_append]
      exact (List.perm_append_singleton _ _).trans (hp.cons _)
    · intro x hx
      rcases List.mem_cons.1 hx with rfl | hx
      · exact hp'
      · exact hok x hx
    · simp only [List.map_cons, List.nodup_cons]
      exact ⟨hm, hn⟩
    · exact ⟨rfl, rfl, rfl, by simp [ChangeMaps.setBlock], fun i _ hi => ChangeMaps.heap_setBlock_other hb _ (fun e => hi (by rw [e]))⟩
  · exact absurd h3 (hno e0 (List.mem_of_getElem? h2))

theorem without_perm {l : List (Pt × Nat)} (hn : (l.map (·.1)).Nodup) {p : Pt} {g : Nat} (hm : (p, g) ∈ l) : l.Perm ((p, g) :: l.filter fun x => x.1 ≠ p) := by
  induction l with
  | nil => cases hm
  | cons z l ih =>
    simp only [List.map_cons, List.nodup_cons] at hn
    by_cases hz : z.1 = p
    · have hno : ∀ x ∈ l, x.1 ≠ p := fun x hx e => hn.1 (List.mem_map.2 ⟨x, hx, by rw [e, hz]⟩)
      have ez : z = (p, g) := by
        rcases List.mem_cons.1 hm with e | h
        · exact e.symm
        · exact absurd rfl (hno _ h)
      rw [List.filter_cons_of_neg (by simp [hz]), List.filter_eq_self.2 (fun x hx => by simpa using hno x hx), ez]
    · have hm2 : (p, g) ∈ l := by
        rcases List.mem_cons.1 hm with e | h
        · exact absurd (by rw [← e]) hz
        · exact h
      rw [List.filter_cons_of_pos (by simpa using hz)]
      exact ((ih hn.2 hm2).cons z).trans (List.Perm.swap _ _ _)
theorem without_none {l : List (Pt × Nat)} {p : Pt} (hm : p ∉ l.map (·.1)) : (l.filter fun x => x.1 ≠ p) = l :=
  List.filter_eq_self.2 fun x hx => by simpa using fun e => hm (List.mem_map.2 ⟨x, hx, e⟩)

/-- 'delete(m, p)'. -/
theorem MapIs.drop {w : World} {b : Nat} {l : List (Pt × Nat)} (h : MapIs w b l) {p : Pt} (hp' : p.ok) (ty : TypeId) :
    ∃ w', (Builtin.delete_ #[61, 29] ty #[.map (some b), pv p]).run Try.prog w = .ok (.tuple #[]) w' ∧ MapIs w' b (l.filter fun x => x.1 ≠ p) ∧ w.grownBy w' (some b) ∧ w'.heap.size = w.heap.size := by
  obtain ⟨es, clock, hb, F, hp, hok, hn⟩ := h
  have hk := key_kL hp'
  have gr : ∀ o : Obj, w.grownBy (ChangeMaps.setBlock w b o) (some b) ∧ (ChangeMaps.setBlock w b o).heap.size = w.heap.size := fun o =>
    ⟨⟨rfl, rfl, rfl, by simp [ChangeMaps.setBlock], fun i _ hi => ChangeMaps.heap_setBlock_other hb _ (fun e => hi (by rw [e]))⟩, by simp [ChangeMaps.setBlock]⟩
  have hokf : ∀ x ∈ l.filter (fun x => x.1 ≠ p), x.1.ok := fun x hx => hok x (List.mem_filter.1 hx).1
  have hnf : ((l.filter fun x => x.1 ≠ p).map (·.1)).Nodup := hn.sublist (List.filter_sublist.map _)
  rcases portLaw.find w hk es.toList F.keys with ⟨h1, h2⟩ | ⟨j, e0, h1, h2, h3⟩
  · have hno : p ∉ l.map (·.1) := fun hm => by
      obtain ⟨x, hx, e⟩ := List.mem_map.1 hm
      obtain ⟨e', he', hk', _⟩ := MapIs.entry' hp x hx
      exact h2 e' he' (by rw [hk', e])
    refine ⟨_, ?_, ⟨es, clock, ChangeMaps.heap_setBlock_same hb _, F, by rw [without_none hno]; exact hp, hokf, hnf⟩, (gr _).1, (gr _).2⟩
    simp [Builtin.delete_, run_underlying Try.underlying61, MapKept.run_getObj_map hb, portLaw.check w _ hk, h1, MapKept.run_setObj_map _ hb, Result.andThen, ChangeMaps.setBlock]
  · have hjl : j < es.toList.length := (List.getElem?_eq_some_iff.1 h2).1
    have hjs : j < es.size := by simpa using hjl
    have hsub : (es.eraseIdxIfInBounds j).toList = es.toList.eraseIdx j := by
      unfold Array.eraseIdxIfInBounds
      rw [dif_pos hjs]
      simp
    obtain ⟨x, hx, k1, k2⟩ := MapIs.entry hp e0 (List.mem_of_getElem? h2)
    have ex : x.1 = p := pv_inj (k1.symm.trans h3)
    obtain ⟨xp, g⟩ := x
    simp only at ex k1 k2
    subst ex
    refine ⟨_, ?_, ⟨es.eraseIdxIfInBounds j, clock, ChangeMaps.heap_setBlock_same hb _, ⟨Nat.le_trans (MapFrom.size_erase es j) F.size, MapKept.stamped_erase F.stamped j, fun y hy => ?_⟩, ?_, hokf, hnf⟩, (gr _).1, (gr _).2⟩
    · simp [Builtin.delete_, run_underlying Try.underlying61, MapKept.run_getObj_map hb, portLaw.check w _ hk, h1, MapKept.run_setObj_map _ hb, Result.andThen, ChangeMaps.setBlock]
    · rw [hsub] at hy
      exact F.reads y ((List.eraseIdx_sublist _ _).subset hy)
    · rw [hsub]
      have e1 : es.toList.Perm (e0 :: es.toList.eraseIdx j) := by
        have e2 : es.toList[j] = e0 := by
          have := List.getElem?_eq_getElem hjl
          rw [h2] at this
          exact (Option.some.inj this).symm
        have e5 : es.toList = es.toList.take j ++ e0 :: es.toList.drop (j + 1) := by
          rw [← e2, List.getElem_cons_drop, List.take_append_drop]
        rw [List.eraseIdx_eq_take_drop_succ]
        exact (List.Perm.of_eq e5).trans List.perm_middle
      have e3 := (e1.map fun e => (e.key, e.val)).symm.trans (hp.trans ((without_perm hn hx).map fun x => (pv x.1, bp x.2)))
      simp only [List.map_cons, k1, k2] at e3
      exact e3.cons_inv

/-- 'len(m)'. -/
theorem MapIs.len {w : World} {b : Nat} {l : List (Pt × Nat)} (h : MapIs w b l) (ty : TypeId) :
    (Builtin.len_ #[61] ty #[.map (some b)]).run Try.prog w = .ok (.int .i64 l.length) w := by
  obtain ⟨es, clock, hb, F, hp, hok, hn⟩ := h
  have hsz : es.size = l.length := by have := hp.length_eq; simpa using this
  simp [Builtin.len_, run_underlying Try.underlying61, MapKept.run_getObj_map hb, goInt, Result.andThen, hsz]

/-- 'clear(m)'. -/
theorem MapIs.clear {w : World} {b : Nat} {l : List (Pt × Nat)} (h : MapIs w b l) (ty : TypeId) :
    ∃ w', (Builtin.clear_ #[61] ty #[.map (some b)]).run Try.prog w = .ok (.tuple #[]) w' ∧ MapIs w' b [] ∧ w.grownBy w' (some b) ∧ w'.heap.size = w.heap.size := by
  obtain ⟨es, clock, hb, F, hp, hok, hn⟩ := h
  refine ⟨ChangeMaps.setBlock w b (.map #[] clock), ?_, ⟨#[], clock, ChangeMaps.heap_setBlock_same hb _, ⟨by simp, MapKept.stamped_empty clock, by simp⟩, by simp, by simp, by simp⟩, ⟨rfl, rfl, rfl, by simp [ChangeMaps.setBlock], fun i _ hi => ChangeMaps.heap_setBlock_other hb _ (fun e => hi (by rw [e]))⟩, by simp [ChangeMaps.setBlock]⟩
  simp [Builtin.clear_, run_underlying Try.underlying61, MapKept.run_getObj_map hb, MapKept.run_setObj_map _ hb, Result.andThen, ChangeMaps.setBlock]
end Go.Proofs.Ytmjmoihggojpiaa
