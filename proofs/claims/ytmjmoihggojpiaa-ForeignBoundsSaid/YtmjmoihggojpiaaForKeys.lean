/- The keys of the map, collected: maps.Keys, slices.AppendSeq, slices.Collect. -/
import Derived.Test.YtmjmoihggojpiaaForMap
import Derived.WalkKit
import Derived.RangeFuncNested
import Derived.RangeFuncLeaves
import Derived.RangeFuncStops
import Derived.Shelf.Abstract
import Derived.OwnWalkIn
import Derived.TacticsInMore
import Derived.LoopNIn
import Derived.LoopIn
import Derived.Sort.MapsRangeIn
set_option linter.unusedSimpArgs false
set_option linter.unusedVariables false
namespace Go.Proofs.Ytmjmoihggojpiaa
open Go Go.Maps Go.RowKit Go.Shelf
open Go.WideElems (Fit rd rg pl)
attribute [local go_sem] Oper.semAt_some

set_option maxRecDepth 100000 in
theorem MapIs.owns {w : World} {b : Nat} {l : List (Pt × Nat)} (h : MapIs w b l) : ∃ D : DataW Unit, w.ownsMap Try.prog 29 anyR b l.length D ∧
    (∀ key kl, keyOf Try.prog 29 key = some kl → Maps.has D kl = true → ∃ p ∈ l.map (·.1), key = pv p ∧ kl = kL p) ∧ (∀ p ∈ l.map (·.1), Maps.has D (kL p) = true) ∧ Maps.size D = l.length := by
  obtain ⟨es, clock, hb, F, hp, hok, hn⟩ := h
  have hsz : es.size = l.length := by have := hp.length_eq; simpa using this
  refine ⟨_, ⟨es, clock, hb, F, Nat.le_of_eq hsz, rfl⟩, fun key kl hk hh => ?_, fun p hm => ?_, ?_⟩
  · obtain ⟨q, hq, hqk⟩ := List.any_eq_true.1 hh
    obtain ⟨e, he, rfl⟩ := List.mem_map.1 (mem_sorted.1 hq)
    have ek := WideAt.sameKey_eq hqk
    obtain ⟨y, hy⟩ := F.reads e he
    rw [WideElems.rg_of hy] at ek
    have e1 := WideElems.rd_key hy
    rw [ek] at e1
    obtain ⟨x, hx, h1, _⟩ := MapIs.entry hp e he
    have e2 : key = pv x.1 := (portLaw.inj hk e1).trans h1
    refine ⟨x.1, List.mem_map.2 ⟨x, hx, rfl⟩, e2, ?_⟩
    have e3 := key_kL (hok x hx)
    rw [e2, e3] at hk
    exact (Option.some.inj hk).symm
  · obtain ⟨x, hx, rfl⟩ := List.mem_map.1 hm
    obtain ⟨e, he, h1, _⟩ := MapIs.entry' hp x hx
    obtain ⟨y, hy⟩ := F.reads e he
    have e1 := WideElems.rd_key hy
    rw [h1, key_kL (hok x hx)] at e1
    refine List.any_eq_true.2 ⟨rg Try.prog 29 anyR e, mem_sorted.2 (List.mem_map.2 ⟨e, he, rfl⟩), ?_⟩
    rw [WideElems.rg_of hy, ← Option.some.inj e1]
    exact WideAt.sameKey_self (portLaw.key (key_kL (hok x hx)))
  · simp [Maps.size, length_sorted, hsz]

/-- What has come so far. -/
structure Come (keys : List Pt) (left : Lit → Bool) (ps : List Pt) : Prop where
  once : ps.Nodup
  here : ∀ p ∈ ps, p ∈ keys ∧ left (kL p) = false
  all : ∀ p ∈ keys, left (kL p) = false → p ∈ ps
set_option maxRecDepth 100000 in
theorem Come.step {keys : List Pt} {left : Lit → Bool} {ps : List Pt} (h : Come keys left ps) {p : Pt} (hp : p ∈ keys) (hok : ∀ q ∈ keys, q.ok) (hl : left (kL p) = true) : Come keys (fun z => left z && !z.sameKey (kL p)) (ps ++ [p]) := by
  have hnew : p ∉ ps := fun hx => by have := (h.here p hx).2; rw [hl] at this; cases this
  refine ⟨List.nodup_append.2 ⟨h.once, by simp, fun a ha b hb => by simp at hb; subst hb; exact fun e => hnew (e ▸ ha)⟩, fun q hq => ?_, fun q hq hq2 => ?_⟩
  · rcases List.mem_append.1 hq with hq | hq
    · exact ⟨(h.here q hq).1, by rw [(h.here q hq).2]; rfl⟩
    · simp only [List.mem_singleton] at hq
      subst hq
      exact ⟨hp, by rw [WideAt.sameKey_self (portLaw.key (key_kL (hok q hp)))]; simp⟩
  · cases h1 : left (kL q)
    · exact List.mem_append_left _ (h.all q hq h1)
    · rw [h1] at hq2
      have h2 : (kL q).sameKey (kL p) = true := by simpa using hq2
      have := kL_inj (hok q hq) (hok p hp) (WideAt.sameKey_eq h2)
      rw [this]; simp
theorem Come.perm {keys : List Pt} {left : Lit → Bool} {ps : List Pt} (h : Come keys left ps) (hn : keys.Nodup) (hl : ∀ kl, left kl = false) : ps.Perm keys :=
  (List.perm_ext_iff_of_nodup h.once hn).2 fun p => ⟨fun hp => (h.here p hp).1, fun hp => h.all p hp (hl _)⟩

set_option maxRecDepth 100000 in
set_option maxHeartbeats 1000000 in
theorem keys1_in (F : Fence) (n : Nat) (hf : F.fn 40) (hro : F.round = none) (hn : 1 ≤ n) (r Bm b : Nat) (l : List (Pt × Nat)) (J Jx : List Pt → World → Prop)
    (hY : ∀ pre x W, J pre W → pre.length < l.length → YieldAt F (n - 1) Try.prog r #[pv x] W fun e W' =>
      (e = .returned (.bool true) ∧ J (pre ++ [x]) W' ∧ KeepsWalks W W') ∨ (e = .returned (.bool false) ∧ Jx (pre ++ [x]) W'))
    (W : World) (hJ : AbidesFrom W.heap.size J) (hm : W.cell? ⟨Bm, 0, none⟩ = some (.map (some b))) (hM : MapIs W b l) (h0 : J [] W) :
    CallsIn F n Try.prog 40 #[.func (.yield r) #[] #[], .pointer (some ⟨Bm, 0, none⟩)] W fun e W' => (∃ v, e = .returned v) ∧
      ((∃ ps : List Pt, ps.Perm (l.map (·.1)) ∧ J ps W') ∨ (∃ pre : List Pt, True ∧ Jx pre W')) := by
  obtain ⟨D0, hown, hkey0, hhas, hsz⟩ := hM.owns
  obtain ⟨hok, hnd⟩ : (∀ p ∈ l.map (·.1), p.ok) ∧ (l.map (·.1)).Nodup := by
    obtain ⟨es, clock, _, _, _, h4, h5⟩ := hM
    exact ⟨fun p hp => by obtain ⟨x, hx, rfl⟩ := List.mem_map.1 hp; exact h4 x hx, h5⟩
  refine callsIn_of_wp Try.func40 rfl hf ?_ hro
  simp only [Try.ntmps40, List.size_toArray, List.length_cons, List.length_nil, Nat.reduceAdd, Nat.reduceSub, Array.replicate_succ, Array.replicate_zero, List.push_toArray, List.append_toArray, List.nil_append, List.cons_append]
  gi_wp2_with (first
    | (gi_at_range; refine wpListIn_range_own _ rfl _ 61 rfl 29 64 portLaw Try.underlying61 _ b _ _ rfl hown ?_; intro w0 hrg0 hg0 hs0)
    | gi_in)
  go_frame
  gi_loopw [3] (fun _ wr => ∃ (left : Lit → Bool) (cnt : Nat) (ps : List Pt), wr.ranges Try.prog 29 anyR b W.heap.size l.length D0 left cnt ∧ ps.length + cnt ≤ l.length ∧ Come (l.map (·.1)) left ps ∧ J ps wr)
    (fun _ wr => wr.rangeLeft b W.heap.size)
  case atStart =>
    exact ⟨_, _, [], hrg0, by simp [hsz], ⟨by simp, by simp, fun p hp h => by rw [hhas p hp] at h; cases h⟩, hJ [] W w0 none h0 hg0 (fun r e => by cases e)⟩
  case round =>
    obtain ⟨left, cnt, ps, hrg, hcs, hC, hJs⟩ := hrel
    gi_wp2_with (first
      | (gi_at_next; refine wpListIn_next_ranges _ rfl _ rfl 29 portLaw anyR (fun v : Value => v) (fun v : Value => v) (fun key kl hk => ⟨key, rfl⟩) (fun v _ _ => ⟨v, rfl⟩) b W.heap.size l.length _ _ _ rfl hrg ?_ ?_)
      | gi_in)
    · intro hc0 hl0
      gi_wp2
      go_end0
      exact ⟨⟨_, rfl⟩, .inl ⟨ps, hC.perm hnd hl0, hJs⟩⟩
    · intro x c kl yd yp w2 cnt2 hkey hlk hv hat hrg2 hlt hg2 hs2 hen
      obtain ⟨p, hp, rfl, rfl⟩ := hkey0 _ _ hkey (Maps.has_true_of_atKey hat)
      have hJ2 : J ps w2 := hJ ps wr w2 (some W.heap.size) hJs hg2 (fun r e => by cases e; exact ⟨Nat.le_refl _, hrg.iter_walk⟩)
      have hlt2 : ps.length < l.length := by omega
      have hJ3 : J ps (w2.alloc (.cells (encP p).toArray 29)) := hJ ps w2 _ none hJ2 (World.grownBy_alloc w2 _ none) (fun r e => by cases e)
      have hrg3 := hrg2.alloc (.cells (encP p).toArray 29)
      obtain ⟨fn, tmps, assign, body, hy, hR⟩ := hY ps p _ hJ3 hlt2
      clear hs2
      have hC2 := hC.step hp hok hlk
      simp only [pv, encP] at hen hy hR hrg3
      gi_wp2
      refine hR.mono ?_
      rintro e W3 (⟨rfl, hJ4, hk3⟩ | ⟨rfl, hJx3⟩)
      · gi_wp2
        have hrg3 := hrg3.of_walks hk3
        go_roundw
        case rel => exact ⟨_, cnt2, ps ++ [p], hrg3, by simp; omega, hC2, hJ4⟩
        case measure => rw [hrg3.left_eq, hrg.left_eq]; exact hlt
      · gi_wp2
        refine bodyPost_ret (results_none rfl _ _ _) rfl ?_
        exact ⟨⟨_, rfl⟩, .inr ⟨ps ++ [p], trivial, hJx3⟩⟩

theorem keys_stops (F : Fence) (n : Nat) (hf : F.fn 40) (hro : F.round = none) (hn : 1 ≤ n) (Bm b : Nat) (l : List (Pt × Nat)) (w : World) (hBm : Bm < w.heap.size)
    (hm : w.cell? ⟨Bm, 0, none⟩ = some (.map (some b))) (hM : MapIs w b l) :
    SeqStopsK F n Try.prog 40 #[.pointer (some ⟨Bm, 0, none⟩)] (fun p : Pt => #[pv p]) KeepsWalks (fun ps => ps.Perm (l.map (·.1))) (fun _ => True) l.length w := fun r J Jx W hW hJ _ hY h0 =>
  keys1_in F n hf hro hn r Bm b l J Jx hY W hJ ((hW.cell (p := ⟨Bm, 0, none⟩) hBm).trans hm) (hM.below hW hM.lt) h0

/-- maps.Keys: the map is boxed; the function value holds the box. -/
theorem keys_in (F : Fence) (n : Nat) (hf : F.fn 34) (hro : F.round = none) (b : Nat) (w : World) :
    CallsIn F n Try.prog 34 #[.map (some b)] w fun e w' => e = .returned (.func (.func 40) #[] #[.pointer (some ⟨w.heap.size, 0, none⟩)]) ∧ w' = w.alloc (.cells #[.map (some b)] 61) := by
  refine callsIn_of_wp Try.func34 rfl hf ?_ hro
  simp only [Try.ntmps34, List.size_toArray, List.length_cons, List.length_nil, Nat.reduceAdd, Nat.reduceSub, Array.replicate_succ, Array.replicate_zero, List.push_toArray, List.append_toArray, List.nil_append, List.cons_append]
  gi_wp2
  go_ret
  exact ⟨rfl, rfl⟩
end Go.Proofs.Ytmjmoihggojpiaa
