/- The table: what it holds, and what its calls do to it: plain words. -/
import Derived.Test.YtmjmoihggojpiaaForWalkB
set_option linter.unusedSimpArgs false
set_option linter.unusedVariables false
namespace Go.Proofs.Ytmjmoihggojpiaa
open Go Go.Maps Go.RowKit Go.Shelf Go.Sort Go.Lib

/-- Laid in by rising keys. -/
def ins {α : Type} (key : α → Pt) (x : α) : List α → List α
  | [] => [x]
  | y :: l => if cmpP (key x) (key y) < 0 then x :: y :: l else y :: ins key x l
theorem ins_perm {α : Type} (key : α → Pt) (x : α) (l : List α) : (ins key x l).Perm (x :: l) := by
  induction l with
  | nil => exact List.Perm.refl _
  | cons y l ih =>
    unfold ins
    split
    · exact List.Perm.refl _
    · exact (ih.cons y).trans (List.Perm.swap _ _ _)
theorem ins_map {α β : Type} (ka : α → Pt) (kb : β → Pt) (f : α → β) (h : ∀ a, kb (f a) = ka a) (x : α) (l : List α) : (ins ka x l).map f = ins kb (f x) (l.map f) := by
  induction l with
  | nil => rfl
  | cons y l ih =>
    simp only [ins, List.map_cons, h]
    split
    · rfl
    · rw [List.map_cons, ih]
theorem mem_ins {α : Type} {key : α → Pt} {x y : α} {l : List α} : y ∈ ins key x l ↔ y = x ∨ y ∈ l := by
  rw [(ins_perm key x l).mem_iff, List.mem_cons]
theorem asc_ins {α : Type} (key : α → Pt) (x : α) (l : List α) (h : Asc (l.map key)) (hx : key x ∉ l.map key) : Asc ((ins key x l).map key) := by
  induction l with
  | nil => exact List.pairwise_singleton _ _
  | cons y l ih =>
    unfold Asc at h
    rw [List.map_cons, List.pairwise_cons] at h
    unfold ins
    split
    · rename_i hlt
      refine List.pairwise_cons.2 ⟨fun z hz => ?_, List.pairwise_cons.2 ⟨h.1, h.2⟩⟩
      rw [List.map_cons, List.mem_cons] at hz
      rcases hz with rfl | hz
      · exact hlt
      · exact cmpP_trans hlt (h.1 z hz)
    · rename_i hlt
      refine List.pairwise_cons.2 ⟨fun z hz => ?_, ih h.2 (fun hm => hx (by rw [List.map_cons]; exact List.mem_cons_of_mem _ hm))⟩
      obtain ⟨u, hu, rfl⟩ := List.mem_map.1 hz
      rcases mem_ins.1 hu with rfl | hu
      · have a1 := cmpP_swap (key u) (key y)
        rcases Int.lt_trichotomy (cmpP (key y) (key u)) 0 with e | e | e
        · exact e
        · exact absurd (by rw [List.map_cons, cmpP_zero e]; exact List.mem_cons_self) hx
        · omega
      · exact h.1 _ (List.mem_map.2 ⟨u, hu, rfl⟩)
theorem Asc.sub {ps qs : List Pt} (h : Asc ps) (hs : qs.Sublist ps) : Asc qs := List.Pairwise.sublist hs h

def keyE (e : En) : Pt := e.s.sender
def keyX (x : En × Nat) : Pt := x.1.s.sender

/-- A table, in memory; base: where its blocks begin. -/
structure TabAt (base : Nat) (w : World) (T : Nat) (own : List Int) (win : Int) (mb : Nat) (l : List (En × Nat)) : Prop where
  tab : Blk w T 63 (encC own ++ [.int .i64 win, .map (some mb)])
  len : own.length = 8
  map : MapIs w mb (l.map fun x => (keyX x, x.2))
  ents : ∀ x ∈ l, EntAt w x.2 x.1
  asc : Asc (l.map keyX)
  apart : (T :: mb :: l.map (·.2)).Nodup
  from_ : ∀ k ∈ T :: mb :: l.map (·.2), base ≤ k
  few : l.length ≤ 5
  many : ∀ x ∈ l, 1 ≤ x.1.many ∧ x.1.many ≤ 2
  times : ∀ x ∈ l, 0 ≤ x.1.t0 ∧ x.1.t0 ≤ 4611686018427387904
  win_ : 4 ≤ win ∧ win ≤ 4398046511104
  bytes : ∀ x ∈ own, 0 ≤ x ∧ x < 256

theorem TabAt.lt {base : Nat} {w : World} {T : Nat} {own : List Int} {win : Int} {mb : Nat} {l : List (En × Nat)} (h : TabAt base w T own win mb l) : ∀ k ∈ T :: mb :: l.map (·.2), k < w.heap.size := fun k hk => by
  simp only [List.mem_cons, List.mem_map] at hk
  rcases hk with rfl | rfl | ⟨x, hx, rfl⟩
  · exact h.tab.lt
  · exact h.map.lt
  · exact Blk.lt (h.ents x hx)
/-- It stands as long as its blocks do. -/
theorem TabAt.kept {base : Nat} {w w' : World} {T : Nat} {own : List Int} {win : Int} {mb : Nat} {l : List (En × Nat)} (h : TabAt base w T own win mb l)
    (hb : ∀ k ∈ T :: mb :: l.map (·.2), w'.heap[k]? = w.heap[k]?) : TabAt base w' T own win mb l :=
  { h with
    tab := (hb T (by simp)).trans h.tab
    map := h.map.of_block (hb mb (by simp))
    ents := fun x hx => (hb x.2 (by simp only [List.mem_cons, List.mem_map]; exact .inr (.inr ⟨x, hx, rfl⟩))).trans (h.ents x hx) }
theorem TabAt.below {base : Nat} {w w' : World} {T : Nat} {own : List Int} {win : Int} {mb : Nat} {l : List (En × Nat)} (h : TabAt base w T own win mb l) {B : Nat} (hb : Below B w w') (hB : w.heap.size ≤ B) : TabAt base w' T own win mb l :=
  h.kept fun k hk => hb.block k (Nat.lt_of_lt_of_le (h.lt k hk) hB)
theorem TabAt.cwin {base : Nat} {w : World} {T : Nat} {own : List Int} {win : Int} {mb : Nat} {l : List (En × Nat)} (h : TabAt base w T own win mb l) : w.cell? ⟨T, 8, none⟩ = some (.int .i64 win) := by
  rw [h.tab.cell, List.getElem?_append_right (by simp [encC, h.len])]
  simp [encC, h.len]
theorem TabAt.cmap {base : Nat} {w : World} {T : Nat} {own : List Int} {win : Int} {mb : Nat} {l : List (En × Nat)} (h : TabAt base w T own win mb l) : w.cell? ⟨T, 9, none⟩ = some (.map (some mb)) := by
  rw [h.tab.cell, List.getElem?_append_right (by simp [encC, h.len])]
  simp [encC, h.len]
theorem TabAt.rown {base : Nat} {w : World} {T : Nat} {own : List Int} {win : Int} {mb : Nat} {l : List (En × Nat)} (h : TabAt base w T own win mb l) : w.rangeAt T 0 (encC own) :=
  h.tab.range 0 _ fun j v hv => by
    have hj : j < (encC own).length := (List.getElem?_eq_some_iff.1 hv).1
    rw [Nat.zero_add, List.getElem?_append_left hj]; exact hv

/-! What the calls tell, and what is there behind them. -/
def bad (own : List Int) (s : St) (now : Int) : Bool := decide (now < 0 ∨ 4611686018427387904 < now ∨ s.sender.clock = own ∨ s.steps < 0 ∨ 255 ≤ s.steps)
def at? (l : List En) (p : Pt) : Option En := l.find? fun e => decide (e.s.sender = p)
def upd (s : St) (now : Int) (e : En) : En := if e.s.sender = s.sender then ⟨s, now, e.t0, min (e.many + 1) 2⟩ else e
def best : En → List En → En
  | m, [] => m
  | m, e :: l => best (if e.t0 < m.t0 then e else m) l
def over (win now : Int) (l : List En) : Option En :=
  match l.filter fun e => decide (e.t0 ≤ now - win) with
  | [] => none
  | e :: r => some (best e r)
def hear (own : List Int) (win : Int) (l : List En) (s : St) (now : Int) : List En × Int :=
  if bad own s now = true then (l, 0)
  else match at? l s.sender with
    | some e => if now < e.t0 then (l, 0) else (l.map (upd s now), 1)
    | none =>
      if 5 ≤ l.length then
        match over win now l with
        | none => (l, 4)
        | some o => (ins keyE ⟨s, now, 0, 1⟩ (l.filter fun e => decide (e.s.sender ≠ o.s.sender)), 3)
      else (ins keyE ⟨s, now, 0, 1⟩ l, 2)
def often (win now : Int) (e : En) : Bool := decide (e.many = 2 ∧ e.t0 ≤ now ∧ now - win < e.t0 ∧ e.t1 ≤ now ∧ now - win < e.t1)
def qual (win now : Int) (l : List En) : List St := (l.filter (often win now)).map (·.s)
end Go.Proofs.Ytmjmoihggojpiaa
