/- slices.AppendSeq, slices.Collect of ports: against whatever iterator. -/
import Derived.Test.YtmjmoihggojpiaaForKeys
set_option linter.unusedSimpArgs false
set_option linter.unusedVariables false
namespace Go.Proofs.Ytmjmoihggojpiaa
open Go Go.Maps Go.RowKit Go.Shelf
attribute [local go_sem] Oper.semAt_some

/-- A block of cells is no walk's, nor a loop's: it abides. -/
theorem cells_own {β : Type} (B : Nat) (t : TypeId) (f : β → Array Value) : Own (fun s W => W.heap[B]? = some (.cells (f s) t (0, 0))) := fun s X Y row hs hg hrow =>
  (hg.block B (Array.getElem?_eq_some_iff.1 hs).1 (fun e' => by obtain ⟨o, ho, hc⟩ := hrow B e'.symm; rw [show X.heap[B]? = _ from hs] at ho; cases ho; cases hc)).trans hs
theorem nine_cells {W : World} {B : Nat} {p : Pt} {t : TypeId} (h : W.heap[B]? = some (.cells (encP p).toArray t (0, 0))) :
    W.cell? ⟨B, 0, none⟩ = some (.int .u8 p.a0) ∧ W.cell? ⟨B, 1, none⟩ = some (.int .u8 p.a1) ∧ W.cell? ⟨B, 2, none⟩ = some (.int .u8 p.a2) ∧ W.cell? ⟨B, 3, none⟩ = some (.int .u8 p.a3) ∧ W.cell? ⟨B, 4, none⟩ = some (.int .u8 p.a4) ∧
    W.cell? ⟨B, 5, none⟩ = some (.int .u8 p.a5) ∧ W.cell? ⟨B, 6, none⟩ = some (.int .u8 p.a6) ∧ W.cell? ⟨B, 7, none⟩ = some (.int .u8 p.a7) ∧ W.cell? ⟨B, 8, none⟩ = some (.int .i64 p.n) := by
  refine ⟨?_, ?_, ?_, ?_, ?_, ?_, ?_, ?_, ?_⟩ <;> simp [World.cell?, h]
theorem cells_new (w : World) (l : List Value) (t : TypeId) : ∀ j u, l[j]? = some u → (w.alloc (.cells l.toArray t)).cell? ((⟨w.heap.size, 0, none⟩ : Addr).add j) = some u := fun j u hu => by
  have := World.cell?_alloc_new w l.toArray t j
  have e : ((⟨w.heap.size, 0, none⟩ : Addr).add j) = ⟨w.heap.size, j, none⟩ := by cases j <;> simp [Addr.add]
  rw [e, this]
  simpa using hu

theorem infoPort : (Try.prog.info? 29).map (fun i => (i.zero, i.size, i.bytes)) = some (some (.agg #[.int .u8 0, .int .u8 0, .int .u8 0, .int .u8 0, .int .u8 0, .int .u8 0, .int .u8 0, .int .u8 0, .int .i64 0]), 9, 16) := by kernel_rfl

set_option maxRecDepth 100000 in
set_option maxHeartbeats 2000000 in
theorem appendSeq_in (F : Fence) (n : Nat) (hf : F.fn 45) (hro : F.round = none) (hn : 2 ≤ n) (g : Nat) (lb : Array Value) (hFg : F.fn g) (eg : ∀ args w, (callFunc g args).run Try.prog w = .ok (.enter g args) w)
    (S : List Pt → Prop) (N : Nat) (hN : N ≤ 1000) (w : World) (hseq : SeqStopsK F (n - 1) Try.prog g lb (fun p : Pt => #[pv p]) KeepsWalks S (fun _ => True) N w) :
    CallsIn F n Try.prog 45 #[.slice none 0 0, .func (.func g) #[] lb] w fun e w' => ∃ (v : Value) (ps : List Pt), e = .returned v ∧ S ps ∧ w'.ownsRow w.heap.size 29 9 v ps.length (ps.flatMap encP) ∧ (v = .slice none 0 0 ↔ ps = []) ∧ Below w.heap.size w w' := by
  have h1 : 1 ≤ n := by omega
  obtain ⟨i0, hi, hz0, hz1, hz2⟩ := info_parts infoPort
  refine callsIn_of_wp_marks Try.func45 rfl hf ?_ hro
  simp only [Try.ntmps45, List.size_toArray, List.length_cons, List.length_nil, Nat.reduceAdd, Nat.reduceSub, Array.replicate_succ, Array.replicate_zero, List.push_toArray, List.append_toArray, List.nil_append, List.cons_append]
  gi_wp2
  have bB := Boxed.new w 72 (.slice none 0 0)
  have hB0 : Below w.heap.size w (w.alloc (.cells #[.slice none 0 0] 72)) := (Below.refl _ w).alloc (Nat.le_refl _) _
  have hsz : (w.alloc (.cells #[.slice none 0 0] 72)).heap.size = w.heap.size + 1 := by simp
  have hR0 : (w.alloc (.cells #[.slice none 0 0] 72)).ownsRow w.heap.size 29 9 (.slice none 0 0) 0 ([] : List Value) := ⟨rfl, .inl ⟨rfl, rfl⟩⟩
  obtain ⟨W0, hW0⟩ : ∃ W0, w.alloc (.cells #[.slice none 0 0] 72) = W0 := ⟨_, rfl⟩
  rw [hW0] at bB hB0 hsz hR0 ⊢
  clear hW0
  refine wpIn_rangeFunc_ownH hro h1 (gf := g) (lb := lb) rfl hFg eg hseq walksK_t walksK_b hB0 (fun _ => rfl)
    (fun pre W => (∃ v, Boxed W w.heap.size 72 v ∧ W.ownsRow w.heap.size 29 9 v pre.length (pre.flatMap encP) ∧ (v = .slice none 0 0 ↔ pre = [])) ∧ Below w.heap.size w W)
    (fun _ _ _ => False)
    (OwnFrom.and (Own.from (holdsRow_own w.heap.size w.heap.size 72 29 9 (fun pre : List Pt => pre.length) (fun pre => pre.flatMap encP) (fun pre v => v = .slice none 0 0 ↔ pre = [])) _) (ownFrom_below (Nat.le_refl _) (by omega)))
    (fun _ _ _ _ _ hs _ _ => hs)
    ⟨⟨_, bB, hR0, by simp⟩, hB0⟩
    (fun x a' W => ∃ Bx, w.heap.size < Bx ∧ W.heap[Bx]? = some (.cells (encP x).toArray 29 (0, 0)) ∧ a' = { tmps := #[.slice none 0 0, .func (.func g) #[] lb, .pointer (some ⟨w.heap.size, 0, none⟩), undef, .slice none 0 0, .pointer (some ⟨Bx, 0, none⟩), .func (.func g) #[] lb, .agg (encP x).toArray, undef, undef, undef, undef, undef], defers := [] })
    (fun x a' _ X Y row hs hg hr => by obtain ⟨Bx, h1, h2, h3⟩ := hs; exact ⟨Bx, h1, cells_own Bx 29 (fun (_ : Unit) => (encP x).toArray) () X Y row h2 hg (fun r e => (hr r e).2), h3⟩)
    ?assign ?body ?done ?stop
  case assign =>
    rintro l pre x W K ⟨⟨v, hv, hrow, hG⟩, hB1⟩ hK
    simp only [pv, encP] at hK ⊢
    gi_wp2
    exact hK _ _ ((KeepsOthers.alloc _ _).from _) (KeepsWalks.alloc _ _) ⟨⟨v, hv.alloc _, hrow.alloc _, hG⟩, hB1.alloc hB1.size _⟩ ⟨W.heap.size, hv.lt, World.alloc_heap_new W _, rfl⟩
  case body =>
    rintro l pre x a' W hl hr ⟨⟨v, hv, hrow, hG⟩, hB1⟩ ⟨Bx, hBx, hX, rfl⟩ hlt
    obtain ⟨x0, x1, x2, x3, x4, x5, x6, x7, x8⟩ := nine_cells hX
    have cV := hv.cell
    have hne : (72 : TypeId) ≠ 29 := by decide
    gi_wp2_with (first
      | (gi_at_builtin; refine wpListIn_append_own _ rfl _ _ 72 rfl w.heap.size 29 i0 _ 9 16 Try.underlying72 hi hz0 hz1 hz2 rfl (by decide) _ _ _ rfl (hrow.alloc _) ⟨W.heap.size, 0, none⟩ 1 1 (encP x) rfl rfl (cells_new _ _ _) (by simp [Value.oneCell']) (by unfold maxLen; omega) (by omega) (by have := hB1.size; simp; omega) ?_; intro v' w3 hown' hg3 hnil3
         obtain ⟨a1, a2, a3, a4, a5⟩ := hv.appended hne hrow hB1.size (Nat.le_refl _) hown' hg3
         have c3 := a1.cell
         have f3 := a1.frozen
         obtain ⟨g', cap', rfl⟩ := ownsRow_succ hown'
         go_frame)
      | gi_in)
    refine ⟨a4.from _, ?_, ⟨_, a2, by simpa using a3, by simp⟩, hB1.trans a5⟩
    exact ⟨a4.size, fun k o hk ho => a4.same k o hk (Obj.not_cells_of_walk ho)⟩
  case done =>
    rintro D zs W hD hS ⟨⟨v, hv, hrow, hG⟩, hB1⟩ hK
    have cS := hv.cell
    gi_wp2
    refine ⟨by simp, .inl ⟨_, _, rfl, run_takeDeferred hK, ?_⟩⟩
    exact ⟨_, results_tmp rfl _ _ _, v, zs, rfl, hS, ownsRow_putObj hrow _ hK rfl, hG, hB1.trans (belowK_b (w := w) (Nat.le_refl _) W D _ _ (by omega) hK rfl rfl)⟩
  case stop =>
    rintro D c pre W _ _ h _
    exact h.elim
end Go.Proofs.Ytmjmoihggojpiaa
