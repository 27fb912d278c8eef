/- The table as a law sees it: the list of what was heard, and nothing of where it lies. -/
import Derived.Test.YtmjmoihggojpiaaForQual
set_option linter.unusedSimpArgs false
set_option linter.unusedVariables false
namespace Go.Proofs.Ytmjmoihggojpiaa
open Go Go.Maps Go.RowKit Go.Shelf Go.Sort Go.Lib

/-- The table T says L; the blocks X are none of its own. -/
def TabL (base : Nat) (X : List Nat) (w : World) (T : Nat) (own : List Int) (win : Int) (L : List En) : Prop :=
  ∃ mb l, TabAt base w T own win mb l ∧ l.map (·.1) = L ∧ (∀ x ∈ X, x ∉ T :: mb :: l.map (·.2)) ∧ ∀ x ∈ X, x < w.heap.size
/-- Behind a call: what lay below base, and X, lies as it lay. -/
structure Kept (base : Nat) (X : List Nat) (w w' : World) : Prop where
  below : Below base w w'
  same : ∀ x ∈ X, w'.heap[x]? = w.heap[x]?
  size : w.heap.size ≤ w'.heap.size
theorem Kept.refl (base : Nat) (X : List Nat) (w : World) : Kept base X w w := ⟨Below.refl _ _, fun _ _ => rfl, Nat.le_refl _⟩
theorem Kept.trans {base : Nat} {X : List Nat} {a b c : World} (h : Kept base X a b) (k : Kept base X b c) : Kept base X a c := ⟨h.below.trans k.below, fun x hx => (k.same x hx).trans (h.same x hx), Nat.le_trans h.size k.size⟩
theorem Kept.blk {base : Nat} {X : List Nat} {w w' : World} (h : Kept base X w w') {g : Nat} {t : TypeId} {l : List Value} (hb : Blk w g t l) (hg : g ∈ X) : Blk w' g t l := (h.same g hg).trans hb
theorem TabL.lt {base : Nat} {X : List Nat} {w : World} {T : Nat} {own : List Int} {win : Int} {L : List En} (h : TabL base X w T own win L) : base < w.heap.size := by
  obtain ⟨mb, l, hT, _⟩ := h
  exact Nat.lt_of_le_of_lt (hT.from_ T (by simp)) hT.tab.lt
theorem TabL.later {base : Nat} {X : List Nat} {w w' : World} {T : Nat} {own : List Int} {win : Int} {L : List En} (h : TabL base X w T own win L) (hb : Below w.heap.size w w') : TabL base X w' T own win L := by
  obtain ⟨mb, l, hT, hl, hx, hlt⟩ := h
  exact ⟨mb, l, hT.below hb (Nat.le_refl _), hl, hx, fun x h => Nat.lt_of_lt_of_le (hlt x h) hb.size⟩
/-- A block more that is none of its own. -/
theorem TabL.more {base : Nat} {X : List Nat} {w : World} {T : Nat} {own : List Int} {win : Int} {L : List En} (h : TabL base X w T own win L) (o : Obj) : TabL base (w.heap.size :: X) (w.alloc o) T own win L := by
  obtain ⟨mb, l, hT, hl, hx, hlt⟩ := h
  refine ⟨mb, l, hT.below ((Below.refl _ w).alloc (Nat.le_refl _) o) (Nat.le_refl _), hl, fun x hm => ?_, fun x hm => ?_⟩
  · rcases List.mem_cons.1 hm with rfl | hm
    · exact fun hc => by have := hT.lt _ hc; omega
    · exact hx x hm
  · rw [World.size_alloc]
    rcases List.mem_cons.1 hm with rfl | hm
    · omega
    · have := hlt x hm; omega
theorem TabL.less {base : Nat} {X Y : List Nat} {w : World} {T : Nat} {own : List Int} {win : Int} {L : List En} (h : TabL base X w T own win L) (hs : ∀ x ∈ Y, x ∈ X) : TabL base Y w T own win L := by
  obtain ⟨mb, l, hT, hl, hx, hlt⟩ := h
  exact ⟨mb, l, hT, hl, fun x hm => hx x (hs x hm), fun x hm => hlt x (hs x hm)⟩
theorem TabL.made {base : Nat} {w : World} {T mb : Nat} {own : List Int} {win : Int} (h : TabAt base w T own win mb []) : TabL base [] w T own win [] := ⟨mb, [], h, rfl, by simp, by simp⟩

theorem but_kept {base : Nat} {X S : List Nat} {w w' : World} (h : But S w w') (hB : base ≤ w.heap.size) (hS : ∀ x ∈ S, base ≤ x) (hX : ∀ x ∈ X, x ∉ S ∧ x < w.heap.size) : Kept base X w w' :=
  ⟨h.below hB hS, fun x hx => h.block x (hX x hx).2 (hX x hx).1, h.size⟩

theorem hear_l {base : Nat} {X : List Nat} {w : World} {T : Nat} {own : List Int} {win : Int} {L : List En} (h : TabL base X w T own win L) (s : St) (hp : s.sender.ok) (now : Int) :
    Calls Try.prog 11 #[.pointer (some ⟨T, 0, none⟩), .agg (encS s).toArray, .int .i64 now] w fun r w' =>
      r = .returned (.int .i64 (hear own win L s now).2) ∧ TabL base X w' T own win (hear own win L s now).1 ∧ Kept base X w w' := by
  obtain ⟨mb, l, hT, rfl, hx, hlt⟩ := h
  refine (hear_t hT s hp now).mono ?_
  rintro r w' ⟨l', rfl, hl', hT', hB, hnew⟩
  refine ⟨rfl, ⟨mb, l', hT', hl', fun x hm hc => ?_, fun x hm => Nat.lt_of_lt_of_le (hlt x hm) hB.size⟩, but_kept hB (Nat.le_of_lt (Nat.lt_of_le_of_lt (hT.from_ T (by simp)) hT.tab.lt)) (fun x hm => hT.from_ x (List.mem_cons_of_mem _ hm)) (fun x hm => ⟨fun hc => hx x hm (List.mem_cons_of_mem _ hc), hlt x hm⟩)⟩
  simp only [List.mem_cons] at hc
  have h1 := hx x hm
  have h2 := hlt x hm
  simp only [List.mem_cons, not_or] at h1
  rcases hc with hc | hc | hc
  · exact h1.1 hc
  · exact h1.2.1 hc
  · rcases hnew x hc with hc | hc
    · exact h1.2.2 hc
    · omega
theorem qual_l {base : Nat} {X : List Nat} {w : World} {T : Nat} {own : List Int} {win : Int} {L : List En} (h : TabL base X w T own win L) (now : Int) (hn0 : -4611686018427387904 ≤ now) (hn1 : now ≤ 9223372036854775807) :
    Calls Try.prog 12 #[.pointer (some ⟨T, 0, none⟩), .int .i64 now] w fun r w' => ∃ v, r = .returned v ∧ SetsAt w' v (qual win now L) ∧ TabL base X w' T own win L ∧ Kept base X w w' ∧ Below w.heap.size w w' := by
  have h0 := h
  obtain ⟨mb, l, hT, rfl, hx, hlt⟩ := h
  refine (qual_t hT now hn0 hn1).mono ?_
  rintro r w' ⟨v, rfl, hS, hB⟩
  exact ⟨v, rfl, hS, h0.later hB, ⟨hB.mono (Nat.le_of_lt h0.lt), fun x hm => hB.block x (hlt x hm), hB.size⟩, hB⟩
theorem len_l {base : Nat} {X : List Nat} {w : World} {T : Nat} {own : List Int} {win : Int} {L : List En} (h : TabL base X w T own win L) :
    Calls Try.prog 13 #[.pointer (some ⟨T, 0, none⟩)] w fun r w' => r = .returned (.int .i64 L.length) ∧ w = w' := by
  obtain ⟨mb, l, hT, rfl, hx, hlt⟩ := h
  refine (len_t hT).mono ?_
  rintro r w' ⟨rfl, rfl⟩
  exact ⟨by rw [List.length_map], rfl⟩
theorem drop_l {base : Nat} {X : List Nat} {w : World} {T : Nat} {own : List Int} {win : Int} {L : List En} (h : TabL base X w T own win L) (p : Pt) (hp : p.ok) :
    Calls Try.prog 25 #[.pointer (some ⟨T, 0, none⟩), .agg (encP p).toArray] w fun r w' =>
      r = .returned (.bool (decide (p ∈ L.map keyE))) ∧ TabL base X w' T own win (L.filter fun e => decide (keyE e ≠ p)) ∧ Kept base X w w' := by
  obtain ⟨mb, l, hT, rfl, hx, hlt⟩ := h
  refine (drop_t hT p hp).mono ?_
  rintro r w' ⟨rfl, hT', hB⟩
  refine ⟨by rw [List.map_map]; rfl, ⟨mb, _, hT', by rw [List.filter_map]; rfl, fun x hm hc => hx x hm ?_, fun x hm => Nat.lt_of_lt_of_le (hlt x hm) hB.size⟩, but_kept hB (Nat.le_of_lt (Nat.lt_of_le_of_lt (hT.from_ T (by simp)) hT.tab.lt)) (fun x hm => hT.from_ x (by simp at hm; simp [hm])) (fun x hm => ⟨fun hc => hx x hm (by simp at hc; simp [hc]), hlt x hm⟩)⟩
  simp only [List.mem_cons] at hc ⊢
  exact hc.imp id (Or.imp id fun h => (List.filter_sublist.map _).mem h)
theorem clear_l {base : Nat} {X : List Nat} {w : World} {T : Nat} {own : List Int} {win : Int} {L : List En} (h : TabL base X w T own win L) :
    Calls Try.prog 26 #[.pointer (some ⟨T, 0, none⟩)] w fun r w' => r = .returned (.tuple #[]) ∧ TabL base X w' T own win [] ∧ Kept base X w w' := by
  obtain ⟨mb, l, hT, rfl, hx, hlt⟩ := h
  refine (clear_t hT).mono ?_
  rintro r w' ⟨rfl, hT', hB⟩
  refine ⟨rfl, ⟨mb, [], hT', rfl, fun x hm hc => hx x hm (by simp at hc; simp; omega), fun x hm => Nat.lt_of_lt_of_le (hlt x hm) hB.size⟩, but_kept hB (Nat.le_of_lt (Nat.lt_of_le_of_lt (hT.from_ T (by simp)) hT.tab.lt)) (fun x hm => hT.from_ x (by simp at hm; simp [hm])) (fun x hm => ⟨fun hc => hx x hm (by simp at hc; simp [hc]), hlt x hm⟩)⟩
end Go.Proofs.Ytmjmoihggojpiaa
