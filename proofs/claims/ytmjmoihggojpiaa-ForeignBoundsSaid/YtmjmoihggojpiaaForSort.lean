/- The senders: slices.Collect, slices.SortFunc, slices.SortedFunc; (*Table).Senders. -/
import Derived.Test.YtmjmoihggojpiaaForColl
import Derived.Test.YtmjmoihggojpiaaForWalkA
import Derived.Test.YtmjmoihggojpiaaShelfC
import Derived.Sort.KeysCollected
set_option linter.unusedSimpArgs false
set_option linter.unusedVariables false
namespace Go.Proofs.Ytmjmoihggojpiaa
open Go Go.Maps Go.RowKit Go.Shelf Go.Sort Go.Lib
attribute [local go_sem] Oper.semAt_some

instance : Inhabited Pt := ⟨⟨0, 0, 0, 0, 0, 0, 0, 0, 0⟩⟩

theorem flat_get (ps : List Pt) (i c : Nat) (hi : i < ps.length) (hc : c < 9) : (ps.flatMap encP)[i * 9 + c]? = some ((encP ps[i]!)[c]!) := by
  induction ps generalizing i with
  | nil => simp at hi
  | cons p ps ih =>
    rw [List.flatMap_cons]
    have hl : (encP p).length = 9 := rfl
    cases i with
    | zero =>
      rw [Nat.zero_mul, Nat.zero_add, List.getElem?_append_left (by omega)]
      rw [List.getElem?_eq_getElem (by omega)]
      simp [getElem!_pos (encP p) c (by omega)]
    | succ i =>
      rw [List.getElem?_append_right (by omega), hl, show (i + 1) * 9 + c - 9 = i * 9 + c by omega, ih i (by simpa using hi)]
      simp

/-- v is a slice of just these ports, in a block of its own. -/
def PortsAt (w : World) (v : Value) (ps : List Pt) : Prop :=
  (ps = [] ∧ v = .slice none 0 0) ∨ ∃ g cap, v = .slice (some ⟨g, 0, none⟩) ps.length cap ∧ g < w.heap.size ∧ ∀ i, i < ps.length → w.rangeAt g (i * 9) (encP ps[i]!)
theorem PortsAt.below {w w' : World} {v : Value} {ps : List Pt} (h : PortsAt w v ps) {B : Nat} (hb : Below B w w') (hB : w.heap.size ≤ B) : PortsAt w' v ps := by
  rcases h with h | ⟨g, cap, h1, h2, h3⟩
  · exact .inl h
  · exact .inr ⟨g, cap, h1, Nat.lt_of_lt_of_le h2 hb.size, fun i hi j x hx => (hb.cell (p := ⟨g, i * 9 + j, none⟩) (by show g < B; omega)).trans (h3 i hi j x hx)⟩

theorem ltP (p q : Pt) : ltOf cmpP p q = decide (cmpP p q < 0) := rfl
theorem swoP : SWO (ltOf cmpP) where
  irrefl x := by simp [ltP, cmpP_self]
  trans x y z h1 h2 := by simp only [ltP, decide_eq_true_eq] at *; exact cmpP_trans h1 h2
  ntrans x y z h1 h2 := by
    simp only [ltP, decide_eq_false_iff_not] at *
    have a1 := cmpP_swap x y
    have a2 := cmpP_swap y z
    have a3 := cmpP_swap x z
    by_cases e1 : cmpP x y = 0
    · rw [cmpP_zero e1]; exact h2
    · by_cases e2 : cmpP y z = 0
      · rw [← cmpP_zero e2]; exact h1
      · have := @cmpP_trans z y x (by omega) (by omega)
        omega
theorem totP (x y : Pt) (h1 : ltOf cmpP x y = false) (h2 : ltOf cmpP y x = false) : x = y := by
  simp only [ltP, decide_eq_false_iff_not] at *
  have := cmpP_swap x y
  exact cmpP_zero (by omega)

/-- In order, each once. -/
def Asc (ps : List Pt) : Prop := ps.Pairwise fun p q => cmpP p q < 0
theorem Asc.nodup {ps : List Pt} (h : Asc ps) : ps.Nodup := by
  unfold Asc at h
  exact h.imp (fun {p q} hp e => by subst e; have := cmpP_self p; omega)
theorem asc_unique {ps qs : List Pt} (h1 : Asc ps) (h2 : Asc qs) (h : ps.Perm qs) : ps = qs :=
  List.Perm.eq_of_pairwise (le := fun p q => cmpP p q < 0) (fun a b _ _ x y => by have := cmpP_swap a b; omega) h1 h2 h
theorem asc_sort {ps : List Pt} (hn : ps.Nodup) : Asc (ps.mergeSort fun x y => !(ltOf cmpP) y x) := by
  have tr : ∀ a b c : Pt, (!(ltOf cmpP) b a) = true → (!(ltOf cmpP) c b) = true → (!(ltOf cmpP) c a) = true := fun a b c h1 h2 => by
    simp only [Bool.not_eq_true'] at *
    exact swoP.ntrans _ _ _ h2 h1
  have to : ∀ a b : Pt, ((!(ltOf cmpP) b a) || (!(ltOf cmpP) a b)) = true := fun a b => by
    cases h : ltOf cmpP b a
    · rfl
    · simp only [ltP, decide_eq_true_eq, Bool.not_true, Bool.false_or, Bool.not_eq_true', decide_eq_false_iff_not] at *
      have := cmpP_swap a b
      omega
  have h1 := List.pairwise_mergeSort tr to ps
  have h2 : (ps.mergeSort fun x y => !(ltOf cmpP) y x).Nodup := (List.mergeSort_perm _ _).nodup_iff.2 hn
  refine List.Pairwise.imp₂ (fun a b x y => ?_) h1 h2
  simp only [ltP, Bool.not_eq_true', decide_eq_false_iff_not] at x
  have a1 := cmpP_swap a b
  rcases Int.lt_trichotomy (cmpP a b) 0 with e | e | e
  · exact e
  · exact absurd (cmpP_zero e) y
  · omega

theorem below_sort (w : World) (blk n : Nat) (d : Array Pt) (os : Array Obj) (hb : blk < w.heap.size) : Below blk w (sortWorldK encP 9 w blk 0 n d os) := by
  refine ⟨rfl, rfl, rfl, size_sortWorldK_c encP 9 w blk 0 n d os, fun k hk => ?_⟩
  have h1 : k < (w.heap.modify blk (onCells (putCells id 0 (flatK encP 9 d)))).size := by simp; omega
  show ((w.heap.modify blk (onCells (putCells id 0 (flatK encP 9 d)))) ++ os)[k]? = _
  rw [Array.getElem?_append_left h1, Array.getElem?_modify, if_neg (by omega)]

theorem encP_one (p : Pt) : ∀ v ∈ encP p, v.oneCell' = true := by simp [encP, Value.oneCell']
theorem holdsK_of {w : World} {g cap : Nat} {cur : Array Value} {ps : List Pt} (hg : w.heap[g]? = some (.cells cur 29 (0, 0))) (hs : cur.size = cap * 9) (hc : ps.length ≤ cap) (ht : cur.toList.take (ps.length * 9) = ps.flatMap encP) : HoldsK encP 9 w g 0 ps.toArray := by
  intro j hj
  rw [size_flatK] at hj
  have hj' : j < ps.length * 9 := by simpa using hj
  have h1 : cur[j]? = (ps.flatMap encP)[j]? := by
    rw [← ht, List.getElem?_take_of_lt hj', Array.getElem?_toList]
  have e : j / 9 * 9 + j % 9 = j := by omega
  have h2 := flat_get ps (j / 9) (j % 9) (by omega) (by omega)
  rw [e] at h2
  refine ⟨?_, by simp [World.frozen?, hg]⟩
  rw [get_flatK _ _ _ _ (by simpa using hj)]
  have : w.cell? ⟨g, 0 + j, none⟩ = cur[j]? := by simp [World.cell?, hg]
  rw [this, h1, h2]
  simp
theorem portsAt_of {w : World} {g cap : Nat} {ps : List Pt} (hlt : g < w.heap.size) (h : HoldsK encP 9 w g 0 ps.toArray) : PortsAt w (.slice (some ⟨g, 0, none⟩) ps.length cap) ps := by
  refine .inr ⟨g, cap, rfl, hlt, fun i hi c v hv => ?_⟩
  have hc : c < 9 := (List.getElem?_eq_some_iff.1 hv).1
  have := (h.cell (i := i) (c := c) (by simpa using hi) hc).1
  rw [Nat.zero_add] at this
  rw [this]
  have e : ps.toArray[i]! = ps[i]! := by simp
  rw [e, getElem!_pos (encP ps[i]!) c hc]
  rw [List.getElem?_eq_getElem hc] at hv
  exact hv

set_option maxRecDepth 100000 in
set_option maxHeartbeats 1000000 in
theorem collect_t (Bm b : Nat) (l : List (Pt × Nat)) (hl : l.length ≤ 1000) (w : World) (hBm : Bm < w.heap.size) (hm : w.cell? ⟨Bm, 0, none⟩ = some (.map (some b))) (hM : MapIs w b l) :
    Calls Try.prog 38 #[.func (.func 40) #[] #[.pointer (some ⟨Bm, 0, none⟩)]] w fun e w' =>
      ∃ (v : Value) (ps : List Pt), e = .returned v ∧ ps.Perm (l.map (·.1)) ∧ w'.ownsRow w.heap.size 29 9 v ps.length (ps.flatMap encP) ∧ (v = .slice none 0 0 ↔ ps = []) ∧ Below w.heap.size w w' := by
  have hA := appendSeq_in Fence.wide 2 trivial rfl (by omega) 40 #[.pointer (some ⟨Bm, 0, none⟩)] trivial (enters_of Try.func40 (by kernel_rfl) rfl) (fun ps => ps.Perm (l.map (·.1))) l.length hl w
    (keys_stops Fence.wide 1 trivial rfl (by omega) Bm b l w hBm hm hM)
  have hA := callsIn_wide.1 hA
  clear hm hM
  go_enter Try.func38, Try.ntmps38
  go_wp2_with fail
  refine hA.mono ?_
  rintro e w' ⟨v, ps, rfl, h1, h2, h3, h4⟩
  go_wp2_with fail
  go_ret
  exact ⟨v, ps, rfl, h1, h2, h3, h4⟩

set_option maxRecDepth 100000 in
set_option maxHeartbeats 1000000 in
theorem sortedFunc_t (Bm b : Nat) (l : List (Pt × Nat)) (hl : l.length ≤ 1000) (w : World) (hBm : Bm < w.heap.size) (hm : w.cell? ⟨Bm, 0, none⟩ = some (.map (some b))) (hM : MapIs w b l) :
    Calls Try.prog 33 #[.func (.func 40) #[] #[.pointer (some ⟨Bm, 0, none⟩)], .func (.func 35) #[] #[]] w fun e w' =>
      ∃ (v : Value) (ps : List Pt), e = .returned v ∧ ps.Perm (l.map (·.1)) ∧ Asc ps ∧ PortsAt w' v ps ∧ Below w.heap.size w w' := by
  have hnd : (l.map (·.1)).Nodup := by obtain ⟨es, clock, _, _, _, h4, h5⟩ := hM; exact h5
  have hC := collect_t Bm b l hl w hBm hm hM
  clear hm hM
  go_enter Try.func33, Try.ntmps33
  go_wp2_with fail
  refine hC.mono ?_
  rintro e w1 ⟨v, ps, rfl, h1, h2, h3, h4⟩
  rcases h2.2 with ⟨rfl, h0⟩ | ⟨g, cap, cur, rfl, hbg, hgb, hr1, hr2, hr3, hr4⟩
  · have e0 : ps = [] := h3.1 rfl
    subst e0
    go_wp2_with fail
    refine (Try.sortFunc_none none 0 (.func (.func 35) #[] #[]) w1).mono ?_
    rintro e w2 ⟨rfl, rfl⟩
    go_wp2_with fail
    go_ret
    exact ⟨_, [], rfl, h1, List.Pairwise.nil, .inl ⟨rfl, rfl⟩, h4⟩
  · have hlt : g < w1.heap.size := (Array.getElem?_eq_some_iff.1 hgb).1
    have hH := holdsK_of hgb hr3 hr1 hr4
    have hlen : ps.length ≤ 1000 := by have := h1.length_eq; simp at this; omega
    have hS := Try.sortFunc encP (fun _ => rfl) encP_one cmpP swoP 35 #[] g 0 cap ps.toArray w1 (enters_of Try.func35 (by kernel_rfl) rfl) (fun m os dk _ x y => ports_t x y _) hH hlt (by simp; omega) totP
    rw [show ps.toArray.size = ps.length by simp] at hS
    have hnd2 : ps.Nodup := h1.nodup_iff.2 hnd
    go_wp2_with fail
    refine hS.mono ?_
    rintro e w2 ⟨rfl, n, os, hw2⟩
    have hH2 := holdsK_sortWorldK_c encP 9 w1 g 0 ps.toArray (ps.mergeSort fun x y => !(ltOf cmpP) y x).toArray n os hH hlt (by simp [List.length_mergeSort])
    have hB := below_sort w1 g n (ps.mergeSort fun x y => !(ltOf cmpP) y x).toArray os hlt
    rw [show (ps.toArray.toList.mergeSort fun x y => !(ltOf cmpP) y x).toArray = (ps.mergeSort fun x y => !(ltOf cmpP) y x).toArray by simp] at hw2
    rw [← hw2] at hH2 hB
    clear hw2
    go_wp2_with fail
    go_ret
    have hP := portsAt_of (cap := cap) (Nat.lt_of_lt_of_le hlt hB.size) hH2
    rw [List.length_mergeSort] at hP
    exact ⟨_, _, rfl, (List.mergeSort_perm _ _).trans h1, asc_sort hnd2, hP, h4.trans (hB.mono hbg)⟩

set_option maxRecDepth 100000 in
set_option maxHeartbeats 1000000 in
/-- (*Table).Senders. -/
theorem senders_t (T b : Nat) (l : List (Pt × Nat)) (hl : l.length ≤ 1000) (w : World) (hm : w.cell? ⟨T, 9, none⟩ = some (.map (some b))) (hM : MapIs w b l) :
    Calls Try.prog 24 #[.pointer (some ⟨T, 0, none⟩)] w fun e w' =>
      ∃ (v : Value) (ps : List Pt), e = .returned v ∧ ps.Perm (l.map (·.1)) ∧ Asc ps ∧ PortsAt w' v ps ∧ Below w.heap.size w w' := by
  have hK := callsIn_wide.1 (keys_in Fence.wide 1 trivial rfl b w)
  have hS := sortedFunc_t w.heap.size b l hl (w.alloc (.cells #[.map (some b)] 61)) (by simp) (by go_simp) (hM.below ((Below.refl _ w).alloc (Nat.le_refl _) _) hM.lt)
  clear hM
  go_enter Try.func24, Try.ntmps24
  go_wp2_with fail
  refine hK.mono ?_
  rintro e w1 ⟨rfl, rfl⟩
  go_wp2_with fail
  refine hS.mono ?_
  rintro e w2 ⟨v, ps, rfl, h1, h2, h3, h4⟩
  go_wp2_with fail
  go_ret
  exact ⟨v, ps, rfl, h1, h2, h3, ((Below.refl _ w).alloc (Nat.le_refl _) _).trans (h4.mono (by simp))⟩
end Go.Proofs.Ytmjmoihggojpiaa
