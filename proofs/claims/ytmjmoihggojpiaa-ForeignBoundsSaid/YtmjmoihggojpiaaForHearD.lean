/- Hear, in one word. -/
import Derived.Test.YtmjmoihggojpiaaForHearC
set_option linter.unusedSimpArgs false
set_option linter.unusedVariables false
namespace Go.Proofs.Ytmjmoihggojpiaa
open Go Go.Maps Go.RowKit Go.Shelf Go.Sort Go.Lib

theorem key_upd (s : St) (now : Int) (e : En) : keyE (upd s now e) = keyE e := by
  unfold upd keyE
  split
  · rename_i h; exact h.symm
  · rfl
theorem uniq_of {α β : Type} (f : α → β) {l : List α} (hn : (l.map f).Nodup) {x y : α} (hx : x ∈ l) (hy : y ∈ l) (he : f x = f y) : x = y := by
  induction l with
  | nil => cases hx
  | cons z l ih =>
    rw [List.map_cons, List.nodup_cons] at hn
    rcases List.mem_cons.1 hx with e1 | hx2
    · rcases List.mem_cons.1 hy with e2 | hy2
      · rw [e1, e2]
      · exact absurd (List.mem_map.2 ⟨y, hy2, by rw [← he, e1]⟩) hn.1
    · rcases List.mem_cons.1 hy with e2 | hy2
      · exact absurd (List.mem_map.2 ⟨x, hx2, by rw [he, e2]⟩) hn.1
      · exact ih hn.2 hx2 hy2
theorem uniq_key {l : List (En × Nat)} (h : Asc (l.map keyX)) {x y : En × Nat} (hx : x ∈ l) (hy : y ∈ l) (he : keyX x = keyX y) : x = y := uniq_of keyX h.nodup hx hy he
theorem uniq_blk {l : List (En × Nat)} (hn : (l.map (·.2)).Nodup) {x y : En × Nat} (hx : x ∈ l) (hy : y ∈ l) (he : x.2 = y.2) : x = y := uniq_of (·.2) hn hx hy he

theorem TabAt.upd {base : Nat} {w w' : World} {T : Nat} {own : List Int} {win : Int} {mb : Nat} {l : List (En × Nat)} (h : TabAt base w T own win mb l) (s : St) (now : Int) (hnow : 0 ≤ now ∧ now ≤ 4611686018427387904) (x : En × Nat) (hx : x ∈ l) (hk : keyX x = s.sender)
    (he : EntAt w' x.2 ⟨s, now, x.1.t0, min (x.1.many + 1) 2⟩) (hb : But [x.2] w w') : TabAt base w' T own win mb (l.map fun y => (Ytmjmoihggojpiaa.upd s now y.1, y.2)) := by
  have hap := h.apart
  simp only [List.nodup_cons, List.mem_cons, not_or] at hap
  have hx2 : x.2 ∈ l.map (·.2) := List.mem_map.2 ⟨x, hx, rfl⟩
  have e2 : (l.map fun y => (Ytmjmoihggojpiaa.upd s now y.1, y.2)).map (·.2) = l.map (·.2) := by rw [List.map_map]; rfl
  have ek : (l.map fun y => (Ytmjmoihggojpiaa.upd s now y.1, y.2)).map keyX = l.map keyX := by rw [List.map_map]; exact List.map_congr_left fun y _ => key_upd s now y.1
  have em : ((l.map fun y => (Ytmjmoihggojpiaa.upd s now y.1, y.2)).map fun x => (keyX x, x.2)) = l.map fun x => (keyX x, x.2) := by
    rw [List.map_map]
    exact List.map_congr_left fun y _ => by show (keyE (Ytmjmoihggojpiaa.upd s now y.1), y.2) = _; rw [key_upd]; rfl
  have hxm := h.many x hx
  refine ⟨h.tab.but hb (by simp; intro e; exact hap.1.2 (by rw [e]; exact hx2)), h.len, ?_, fun y hy => ?_, by rw [ek]; exact h.asc, by rw [e2]; exact h.apart, by rw [e2]; exact h.from_, by rw [List.length_map]; exact h.few, fun y hy => ?_, fun y hy => ?_, h.win_, h.bytes⟩
  · rw [em]
    exact h.map.of_block (hb.block mb h.map.lt (by simp; intro e; exact hap.2.1 (by rw [e]; exact hx2)))
  · obtain ⟨z, hz, rfl⟩ := List.mem_map.1 hy
    by_cases hc : z.1.s.sender = s.sender
    · have : z = x := uniq_key h.asc hz hx (hc.trans hk.symm)
      subst this
      unfold Ytmjmoihggojpiaa.upd
      rw [if_pos hc]
      exact he
    · unfold Ytmjmoihggojpiaa.upd
      rw [if_neg hc]
      refine Blk.but (h.ents z hz) hb ?_
      simp only [List.mem_singleton]
      intro e
      exact hc (by rw [uniq_blk hap.2.2 hz hx e]; exact hk)
  · obtain ⟨z, hz, rfl⟩ := List.mem_map.1 hy
    have hzm := h.many z hz
    unfold Ytmjmoihggojpiaa.upd
    split
    · show 1 ≤ min (z.1.many + 1) 2 ∧ min (z.1.many + 1) 2 ≤ 2
      omega
    · exact hzm
  · obtain ⟨z, hz, rfl⟩ := List.mem_map.1 hy
    unfold Ytmjmoihggojpiaa.upd
    split
    · exact hnow
    · exact h.times z hz

theorem at_none {l : List (En × Nat)} {p : Pt} (h : p ∉ l.map keyX) : at? (l.map (·.1)) p = none := by
  unfold at?
  rw [List.find?_eq_none]
  intro e he
  obtain ⟨y, hy, rfl⟩ := List.mem_map.1 he
  simp only [decide_eq_true_eq]
  exact fun hc => h (List.mem_map.2 ⟨y, hy, hc⟩)
theorem at_some {l : List (En × Nat)} (ha : Asc (l.map keyX)) {x : En × Nat} (hx : x ∈ l) {p : Pt} (hk : keyX x = p) : at? (l.map (·.1)) p = some x.1 := by
  unfold at?
  cases h : (l.map (·.1)).find? fun e => decide (e.s.sender = p) with
  | none =>
    rw [List.find?_eq_none] at h
    exact absurd (decide_eq_true hk) (h x.1 (List.mem_map.2 ⟨x, hx, rfl⟩))
  | some e =>
    have h1 := List.mem_of_find?_eq_some h
    have h2 := List.find?_some h
    obtain ⟨y, hy, rfl⟩ := List.mem_map.1 h1
    have h3 : keyX y = p := of_decide_eq_true h2
    rw [uniq_key ha hy hx (h3.trans hk.symm)]

/-- (*Table).Hear. -/
theorem hear_t {base : Nat} {w : World} {T : Nat} {own : List Int} {win : Int} {mb : Nat} {l : List (En × Nat)} (h : TabAt base w T own win mb l) (s : St) (hp : s.sender.ok) (now : Int) :
    Calls Try.prog 11 #[.pointer (some ⟨T, 0, none⟩), .agg (encS s).toArray, .int .i64 now] w fun r w' => ∃ l', r = .returned (.int .i64 (hear own win (l.map (·.1)) s now).2) ∧ l'.map (·.1) = (hear own win (l.map (·.1)) s now).1 ∧
      TabAt base w' T own win mb l' ∧ But (mb :: l.map (·.2)) w w' ∧ (∀ k ∈ l'.map (·.2), k ∈ l.map (·.2) ∨ w.heap.size ≤ k) := by
  by_cases hb : bad own s now = true
  · refine (hear_bad h s hp now hb).mono ?_
    rintro r w' ⟨rfl, hB⟩
    refine ⟨l, ?_, ?_, h.below hB (Nat.le_refl _), .of_below hB, fun k hk => .inl hk⟩
    · unfold hear; rw [if_pos hb]
    · unfold hear; rw [if_pos hb]
  · have hb' : bad own s now = false := by simpa using hb
    have hnow : 0 ≤ now ∧ now ≤ 4611686018427387904 := by
      unfold bad at hb'
      rw [decide_eq_false_iff_not] at hb'
      simp only [not_or] at hb'
      omega
    by_cases hm : s.sender ∈ l.map keyX
    · obtain ⟨x, hx, hk⟩ := List.mem_map.1 hm
      have ha := at_some h.asc hx hk
      refine (hear_in h s hp now hb' x hx hk).mono ?_
      rintro r w' (⟨hlt, rfl, hB⟩ | ⟨hge, rfl, hE, hB⟩)
      · refine ⟨l, ?_, ?_, h.below hB (Nat.le_refl _), .of_below hB, fun k hk => .inl hk⟩
        · unfold hear; rw [if_neg hb, ha]; simp only [if_pos hlt]
        · unfold hear; rw [if_neg hb, ha]; simp only [if_pos hlt]
      · refine ⟨l.map fun y => (upd s now y.1, y.2), ?_, ?_, h.upd s now hnow x hx hk hE hB, hB.mono (by simp; exact .inl (.inr ⟨_, hx⟩)), fun k hk => .inl (by rw [List.map_map] at hk; exact hk)⟩
        · unfold hear; rw [if_neg hb, ha]; simp only [if_neg (by omega : ¬ now < x.1.t0)]
        · unfold hear; rw [if_neg hb, ha]; simp only [if_neg (by omega : ¬ now < x.1.t0)]; rw [List.map_map, List.map_map]; rfl
    · have ha := at_none hm
      refine (hear_new h s hp now hb' hm).mono ?_
      have hins : ∀ (g : Nat) (L : List (En × Nat)), (ins keyX (⟨s, now, 0, 1⟩, g) L).map (·.1) = ins keyE ⟨s, now, 0, 1⟩ (L.map (·.1)) := fun g L => ins_map keyX keyE (·.1) (fun _ => rfl) _ _
      have hnew : ∀ (g : Nat), w.heap.size ≤ g → ∀ L : List (En × Nat), (∀ k ∈ L.map (·.2), k ∈ l.map (·.2)) → ∀ k ∈ (ins keyX (⟨s, now, 0, 1⟩, g) L).map (·.2), k ∈ l.map (·.2) ∨ w.heap.size ≤ k := fun g hg L hL k hk => by
        obtain ⟨y, hy, rfl⟩ := List.mem_map.1 hk
        rcases mem_ins.1 hy with rfl | hy
        · exact .inr hg
        · exact .inl (hL _ (List.mem_map.2 ⟨y, hy, rfl⟩))
      rintro r w' (⟨hf, rfl, g, hg, hT, hB⟩ | ⟨hf, hov, rfl, hB⟩ | ⟨hf, o, hov, rfl, g, hg, hT, hB⟩)
      · refine ⟨_, ?_, ?_, hT, hB.mono (by simp), hnew g hg _ ?_⟩
        · unfold hear; rw [if_neg hb, ha]; simp only [List.length_map, if_neg (by omega : ¬ 5 ≤ l.length)]
        · unfold hear; rw [if_neg hb, ha, hins]; simp only [List.length_map, if_neg (by omega : ¬ 5 ≤ l.length)]
        · exact fun k hk => hk
      · refine ⟨l, ?_, ?_, h.below hB (Nat.le_refl _), .of_below hB, fun k hk => .inl hk⟩
        · unfold hear; rw [if_neg hb, ha]; simp only [List.length_map, if_pos hf, hov]
        · unfold hear; rw [if_neg hb, ha]; simp only [List.length_map, if_pos hf, hov]
      · refine ⟨_, ?_, ?_, hT, hB.mono (by simp), hnew g hg _ ?_⟩
        · unfold hear; rw [if_neg hb, ha]; simp only [List.length_map, if_pos hf, hov]
        · unfold hear; rw [if_neg hb, ha, hins]; simp only [List.length_map, if_pos hf, hov]; rw [List.filter_map]; rfl
        · exact fun k hk => (List.filter_sublist.map _).mem hk
end Go.Proofs.Ytmjmoihggojpiaa
