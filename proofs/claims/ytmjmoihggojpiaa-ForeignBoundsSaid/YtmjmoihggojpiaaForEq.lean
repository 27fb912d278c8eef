/- '==' on clocks. -/
import Derived.Test.YtmjmoihggojpiaaForOld
import Derived.DeepKeys
set_option linter.unusedSimpArgs false
set_option linter.unusedVariables false
namespace Go.Proofs.Ytmjmoihggojpiaa
open Go Go.Maps Go.RowKit

theorem key_clock (p : Pt) (h : ∀ x ∈ p.clock, 0 ≤ x ∧ x < 256) : ∃ kl, keyOf Try.prog 23 (.agg (encC p.clock).toArray) = some kl := by
  obtain ⟨d, hd⟩ : ∃ d, Try.prog.types.size + 1 = d + 1 + 1 := ⟨Try.prog.types.size - 1, by
    have : 3 ≤ Try.prog.types.size := of_decide_eq_true (by kernel_rfl)
    omega⟩
  have hl := litsClock d p h
  unfold keyOf
  rw [Try.underlying23]
  have hk : Try.prog.keyType 23 = true := by kernel_rfl
  have hf : Value.formed Try.prog 23 (.agg (encC p.clock).toArray) = true := by
    unfold Value.formed
    simp only [Try.underlying23, cellsClock, cellsU8]
    rfl
  simp only [hk, hf, Bool.true_and, if_true]
  rw [hd]
  rw [show (Value.agg (encC p.clock).toArray).cells.toList = [.int .u8 p.a0, .int .u8 p.a1, .int .u8 p.a2, .int .u8 p.a3, .int .u8 p.a4, .int .u8 p.a5, .int .u8 p.a6, .int .u8 p.a7] from rfl, hl]
  exact ⟨_, rfl⟩
theorem clockLaw : Keyed Try.prog 23 := Keyed.of_law (deep_law_laid laidOut (m := 3) (by omega) (of_decide_eq_true (by kernel_rfl)) (by kernel_rfl) (by kernel_rfl))

set_option maxRecDepth 100000 in
/-- '==' on two values that can be keys. -/
theorem eql_key {T : TypeId} {m : Nat} (hm : m ≤ 10000) (hk : Try.prog.keyTypeAt m T = true) (hwide : (match Try.prog.underlying T with | some (.array _ _) | some (.struct _) => true | _ => false) = true) (K : Keyed Try.prog T)
    {a b : Array Value} {lx ly : Lit} (hx : keyOf Try.prog T (.agg a) = some lx) (hy : keyOf Try.prog T (.agg b) = some ly) (r : Bool) (hr : r = true ↔ a = b) (w : World) :
    (binOp .eql T (.agg a) (.agg b)).run Try.prog w = .ok (.bool r) w ∧ (binOp .neq T (.agg a) (.agg b)).run Try.prog w = .ok (.bool (!r)) w := by
  obtain ⟨r', h1, h2⟩ := run_equal_deep w hm hk hwide hx hy
  have e : r = r' := by
    rw [Bool.eq_iff_iff, hr, h2]
    constructor
    · rintro rfl; rw [hx] at hy; exact Option.some.inj hy
    · rintro rfl; have := K.inj hx hy; simpa using this
  subst e
  constructor <;> simp [binOp, h1, Result.andThen]
set_option maxRecDepth 100000 in
theorem eql_clock (p q : Pt) (hp : ∀ x ∈ p.clock, 0 ≤ x ∧ x < 256) (hq : ∀ x ∈ q.clock, 0 ≤ x ∧ x < 256) (w : World) :
    (binOp .eql 23 (.agg (encC p.clock).toArray) (.agg (encC q.clock).toArray)).run Try.prog w = .ok (.bool (decide (p.clock = q.clock))) w ∧
    (binOp .neq 23 (.agg (encC p.clock).toArray) (.agg (encC q.clock).toArray)).run Try.prog w = .ok (.bool (!decide (p.clock = q.clock))) w := by
  obtain ⟨lx, hx⟩ := key_clock p hp
  obtain ⟨ly, hy⟩ := key_clock q hq
  refine eql_key (m := 3) (by omega) (by kernel_rfl) (by kernel_rfl) clockLaw hx hy _ ?_ w
  rw [decide_eq_true_eq]
  constructor
  · intro h; rw [h]
  · intro h
    have h2 : encC p.clock = encC q.clock := by simpa using h
    simpa [encC, Pt.clock] using h2
set_option maxRecDepth 100000 in
theorem eql_port (p q : Pt) (hp : p.ok) (hq : q.ok) (w : World) :
    (binOp .eql 29 (.agg (encP p).toArray) (.agg (encP q).toArray)).run Try.prog w = .ok (.bool (decide (p = q))) w ∧
    (binOp .neq 29 (.agg (encP p).toArray) (.agg (encP q).toArray)).run Try.prog w = .ok (.bool (!decide (p = q))) w := by
  refine eql_key (m := 4) (by omega) (by kernel_rfl) (by kernel_rfl) portLaw (key_kL hp) (key_kL hq) _ ?_ w
  rw [decide_eq_true_eq]
  exact ⟨fun h => by rw [h], fun h => pv_inj (by unfold pv; rw [h])⟩
end Go.Proofs.Ytmjmoihggojpiaa
