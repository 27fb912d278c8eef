/- A table of senders, in memory: plain words; and the worlds behind a call. -/
import Derived.Test.YtmjmoihggojpiaaForSort
set_option linter.unusedSimpArgs false
set_option linter.unusedVariables false
namespace Go.Proofs.Ytmjmoihggojpiaa
open Go Go.Maps Go.RowKit Go.Shelf Go.Sort Go.Lib

/-- What an announcement says. -/
structure St where
  p1 : Int
  p2 : Int
  q0 : Int
  q1 : Int
  q2 : Int
  g0 : Int
  g1 : Int
  g2 : Int
  g3 : Int
  g4 : Int
  g5 : Int
  g6 : Int
  g7 : Int
  steps : Int
  sender : Pt
  recv : Pt
  deriving DecidableEq, Inhabited

def encS (s : St) : List Value :=
  [.int .i64 s.p1, .int .i64 s.p2, .int .i64 s.q0, .int .i64 s.q1, .int .i64 s.q2, .int .u8 s.g0, .int .u8 s.g1, .int .u8 s.g2, .int .u8 s.g3, .int .u8 s.g4, .int .u8 s.g5, .int .u8 s.g6, .int .u8 s.g7, .int .i64 s.steps] ++ (encP s.sender ++ encP s.recv)
theorem encS_len (s : St) : (encS s).length = 32 := rfl
theorem encS_steps (s : St) : (encS s)[13]? = some (.int .i64 s.steps) := rfl
theorem encS_sender (s : St) (j : Nat) (v : Value) (h : (encP s.sender)[j]? = some v) : (encS s)[14 + j]? = some v := by
  have hj : j < 9 := (List.getElem?_eq_some_iff.1 h).1
  unfold encS
  rw [List.getElem?_append_right (by simp), List.getElem?_append_left (by simp; omega)]
  simpa using h
theorem encS_one (s : St) : ∀ v ∈ encS s, v.oneCell' = true := by simp [encS, encP, Value.oneCell']
theorem encS_inj {s t : St} (h : encS s = encS t) : s = t := by
  obtain ⟨p1, p2, q0, q1, q2, g0, g1, g2, g3, g4, g5, g6, g7, st, a, b⟩ := s
  obtain ⟨p1', p2', q0', q1', q2', g0', g1', g2', g3', g4', g5', g6', g7', st', a', b'⟩ := t
  cases a; cases b; cases a'; cases b'
  simp [encS, encP] at h
  simp [h]

/-- What was heard of a sender: the last set; the last two times; how many there are. -/
structure En where
  s : St
  t0 : Int
  t1 : Int
  many : Int
  deriving DecidableEq, Inhabited
def encE (e : En) : List Value := encS e.s ++ [.int .i64 e.t0, .int .i64 e.t1, .int .i64 e.many]
theorem encE_len (e : En) : (encE e).length = 35 := rfl

/-- Nothing that lay has turned but those blocks. -/
structure But (S : List Nat) (w w' : World) : Prop where
  os : w'.os = w.os
  tape : w'.tape = w.tape
  output : w'.output = w.output
  size : w.heap.size ≤ w'.heap.size
  block : ∀ k, k < w.heap.size → k ∉ S → w'.heap[k]? = w.heap[k]?
theorem But.refl (S : List Nat) (w : World) : But S w w := ⟨rfl, rfl, rfl, Nat.le_refl _, fun _ _ _ => rfl⟩
theorem But.trans {S S' : List Nat} {a b c : World} (h : But S a b) (k : But S' b c) (hs : ∀ x ∈ S', x ∈ S ∨ a.heap.size ≤ x) : But S a c :=
  ⟨k.os.trans h.os, k.tape.trans h.tape, k.output.trans h.output, Nat.le_trans h.size k.size, fun i hi hn =>
    (k.block i (Nat.lt_of_lt_of_le hi h.size) (fun e => by rcases hs i e with x | x; exact hn x; omega)).trans (h.block i hi hn)⟩
theorem But.trans' {S : List Nat} {a b c : World} (h : But S a b) (k : But S b c) : But S a c := h.trans k fun _ x => .inl x
theorem But.mono {S S' : List Nat} {a b : World} (h : But S a b) (hs : ∀ x ∈ S, x ∈ S' ∨ a.heap.size ≤ x) : But S' a b :=
  ⟨h.os, h.tape, h.output, h.size, fun i hi hn => h.block i hi (fun e => by rcases hs i e with x | x; exact hn x; omega)⟩
theorem But.of_below {S : List Nat} {w w' : World} (h : Below w.heap.size w w') : But S w w' := ⟨h.os, h.tape, h.output, h.size, fun k hk _ => h.block k hk⟩
theorem But.below {S : List Nat} {w w' : World} (h : But S w w') {B : Nat} (hB : B ≤ w.heap.size) (hs : ∀ x ∈ S, B ≤ x) : Below B w w' :=
  ⟨h.os, h.tape, h.output, h.size, fun k hk => h.block k (by omega) (fun e => by have := hs k e; omega)⟩
theorem But.of_grown {S : List Nat} {w w' : World} {b : Nat} (h : w.grownBy w' (some b)) (hb : b ∈ S) : But S w w' :=
  ⟨h.os, h.tape, h.output, h.size, fun k hk hn => h.block k hk (fun e => by cases e; exact hn hb)⟩
theorem But.alloc {S : List Nat} {a b : World} (h : But S a b) (o : Obj) : But S a (b.alloc o) := h.trans (S' := []) (.of_below ((Below.refl _ b).alloc (Nat.le_refl _) o)) (by simp)
theorem But.drewN {S : List Nat} {a b : World} (h : But S a b) (n : Nat) : But S a (b.drewN n) := ⟨h.os, h.tape, h.output, h.size, h.block⟩
theorem But.setCell {S : List Nat} {a b : World} (h : But S a b) (g o : Nat) (v : Value) (hg : g ∈ S) : But S a (b.setCell ⟨g, o, none⟩ v) :=
  h.trans' ⟨rfl, rfl, rfl, (KeepsWalks.setCell b _ v).size, fun k _ hk => Below.heap_setCell _ _ _ k (fun e => hk (by rw [e]; exact hg))⟩
theorem But.lt {S : List Nat} {a b : World} (h : But S a b) {k : Nat} (hk : k < a.heap.size) : k < b.heap.size := Nat.lt_of_lt_of_le hk h.size
theorem But.gr {S : List Nat} {a b : World} (h : Gr a b) : But S a b := .of_below h.below

/-- A block of cells, just so. -/
def Blk (w : World) (g : Nat) (t : TypeId) (l : List Value) : Prop := w.heap[g]? = some (.cells l.toArray t (0, 0))
theorem Blk.lt {w : World} {g : Nat} {t : TypeId} {l : List Value} (h : Blk w g t l) : g < w.heap.size := (Array.getElem?_eq_some_iff.1 h).1
theorem Blk.cell {w : World} {g : Nat} {t : TypeId} {l : List Value} (h : Blk w g t l) (i : Nat) : w.cell? ⟨g, i, none⟩ = l[i]? := by simp [World.cell?, show w.heap[g]? = _ from h]
theorem Blk.frozen {w : World} {g : Nat} {t : TypeId} {l : List Value} (h : Blk w g t l) (i : Nat) : w.frozen? ⟨g, i, none⟩ = false := by simp [World.frozen?, show w.heap[g]? = _ from h]
theorem Blk.but {w w' : World} {g : Nat} {t : TypeId} {l : List Value} {S : List Nat} (h : Blk w g t l) (hb : But S w w') (hg : g ∉ S) : Blk w' g t l := (hb.block g h.lt hg).trans h
theorem Blk.below {w w' : World} {g : Nat} {t : TypeId} {l : List Value} {B : Nat} (h : Blk w g t l) (hb : Below B w w') (hg : g < B) : Blk w' g t l := (hb.block g hg).trans h
theorem Blk.gr {w w' : World} {g : Nat} {t : TypeId} {l : List Value} (h : Blk w g t l) (hb : Gr w w') : Blk w' g t l := h.below hb.below h.lt
theorem Blk.new (w : World) (t : TypeId) (l : List Value) : Blk (w.alloc (.cells l.toArray t)) w.heap.size t l := World.alloc_heap_new w _
theorem Blk.alloc {w : World} {g : Nat} {t : TypeId} {l : List Value} (h : Blk w g t l) (o : Obj) : Blk (w.alloc o) g t l := h.below ((Below.refl _ w).alloc (Nat.le_refl _) o) h.lt
theorem Blk.range {w : World} {g : Nat} {t : TypeId} {l : List Value} (h : Blk w g t l) (o : Nat) (cs : List Value) (hc : ∀ j v, cs[j]? = some v → l[o + j]? = some v) : w.rangeAt g o cs := fun j v hv => by rw [h.cell]; exact hc j v hv
theorem Blk.all {w : World} {g : Nat} {t : TypeId} {l : List Value} (h : Blk w g t l) : w.rangeAt g 0 l := fun j v hv => by rw [h.cell, Nat.zero_add]; exact hv
theorem Blk.there {w : World} {g : Nat} {t : TypeId} {l : List Value} (h : Blk w g t l) (o n : Nat) (hn : o + n ≤ l.length) : w.there g o n := fun j hj => ⟨by rw [h.cell, List.getElem?_eq_getElem (by omega)]; rfl, h.frozen _⟩
theorem Blk.set {w : World} {g : Nat} {t : TypeId} {l : List Value} (h : Blk w g t l) (i : Nat) (v : Value) : Blk (w.setCell ⟨g, i, none⟩ v) g t (l.set i v) := by
  obtain ⟨hlt, hk⟩ := Array.getElem?_eq_some_iff.1 h
  show (w.heap.modify g _)[g]? = _
  rw [Array.getElem?_eq_getElem (by rw [Array.size_modify]; exact hlt), Array.getElem_modify_self, hk]
  simp
theorem Blk.set_other {w : World} {g g' : Nat} {t : TypeId} {l : List Value} (h : Blk w g t l) (hne : g ≠ g') (i : Nat) (v : Value) : Blk (w.setCell ⟨g', i, none⟩ v) g t l := (Below.heap_setCell _ _ _ g hne).trans h
/-- A row of stores. -/
def putL : List Value → Nat → List Value → List Value
  | l, _, [] => l
  | l, i, v :: r => putL (l.set i v) (i + 1) r
theorem Blk.sets {w : World} {g : Nat} {t : TypeId} (vs : List Value) : ∀ {w : World} {l : List Value} (i : Nat), Blk w g t l → Blk (w.setCells g i vs) g t (putL l i vs) := by
  induction vs with
  | nil => intro w l i h; exact h
  | cons v r ih => intro w l i h; rw [World.setCells]; exact ih (i + 1) (h.set i v)
theorem But.setCells {S : List Nat} {a : World} (g : Nat) (hg : g ∈ S) (vs : List Value) : ∀ {b : World} (o : Nat), But S a b → But S a (b.setCells g o vs) := by
  induction vs with
  | nil => intro b o h; exact h
  | cons v r ih => intro b o h; rw [World.setCells]; exact ih (o + 1) (h.setCell g o v hg)
theorem putL_all (vs l r : List Value) (pre : List Value) (h : l.length = vs.length) : putL (pre ++ l ++ r) pre.length vs = pre ++ vs ++ r := by
  induction vs generalizing pre l with
  | nil => cases l with
    | nil => rfl
    | cons x l => simp at h
  | cons v vs ih => cases l with
    | nil => simp at h
    | cons x l =>
      rw [putL]
      have e : (pre ++ x :: l ++ r).set pre.length v = (pre ++ [v]) ++ l ++ r := by simp
      rw [e]
      have := ih l (pre ++ [v]) (by simpa using h)
      rw [show (pre ++ [v]).length = pre.length + 1 by simp] at this
      rw [this]; simp
end Go.Proofs.Ytmjmoihggojpiaa
