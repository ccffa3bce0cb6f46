/- The reference's Pop, Push, Turn: what their regions do. Conditions: the net is in memory as RefAt says. -/
import Derived.Test.YtjpkhediolahaaaPe
set_option linter.unusedVariables false
set_option linter.unusedSimpArgs false
set_option linter.unusedSectionVars false
set_option linter.unnecessarySimpa false
namespace Go.Proofs.Ytjpkhediolahaaa
open Go.RowKit Go.Mk Go.Maps

theorem app_none22 (w : World) (g : Addr) (a : Option Addr) (n c k : Nat) (hnk : n ≤ k) : (Builtin.append_ #[22, 22] 22 #[.slice (some g) n k, .slice a 0 c]).run Try.prog w = .ok (.slice (some g) n k) w := by
  have h := info_parts info29
  obtain ⟨i0, hi, hz0, hz1, hz2⟩ := h
  have hu : Try.prog.underlying 22 = some (.slice 29) := Try.underlying22
  cases a <;> (simp [Builtin.append_, hu, hi, hz0, hz1, hz2, go_sem]; intro h'; omega)

/-- Rows copied behind an empty row. -/
theorem app_rows (w : World) (g : Nat) (hg : w.heap[g]? = some (.cells #[] 29 (0, 0))) {v : Value} {rest : List (List UInt8)} (hv : RowsAt w v rest) (hl : rest.length ≤ 1000) :
    ∃ ad' cap' w', (Builtin.append_ #[22, 22] 22 #[.slice (some ⟨g, 0, none⟩) 0 0, v]).run Try.prog w = .ok (.slice ad' rest.length cap') w' ∧ RowsT 29 w' (.slice ad' rest.length cap') rest ∧ Ext Nope w w' := by
  obtain ⟨vs, ⟨hvl, a, cap, rfl, h1, h2, h3, h4⟩, hr⟩ := hv
  by_cases h0 : rest.length = 0
  · have he : rest = [] := List.eq_nil_of_length_eq_zero h0
    subst he
    refine ⟨_, _, _, app_none22 _ _ _ _ _ _ (Nat.le_refl _), ⟨⟨[], ⟨rfl, _, 0, rfl, Nat.le_refl _, Nat.zero_le _, fun e => (by cases e), fun ad e j u hu => by simp at hu⟩, fun i x r h => by simp at h⟩, fun ad n c hv => ?_⟩, Ext.refl _ _⟩
    simp only [Value.slice.injEq, Option.some.injEq] at hv
    obtain ⟨rfl, -, -⟩ := hv
    exact ⟨_, _, hg⟩
  · cases a with
    | none => have := h3 rfl; omega
    | some ad =>
      obtain ⟨i0, hi, hz0, hz1, hz2⟩ := info_parts info29
      have hs0 : SliceAt w 1 (.slice (some ⟨g, 0, none⟩) 0 0) 0 [] := ⟨rfl, _, 0, rfl, Nat.le_refl _, Nat.zero_le _, fun e => (by cases e), fun ad e j u hu => by simp at hu⟩
      obtain ⟨v', w', g1, g2, g3⟩ := run_append_full (P := Try.prog) w 22 22 29 i0 (.slice none 0 0) 1 24 Try.underlying22 hi hz0 hz1 hz2 rfl (some ⟨g, 0, none⟩) 0 [] hs0 ad rest.length cap vs hvl (h4 ad rfl) (by omega) (by simp only [maxLen]; omega) (by omega)
      simp only [Nat.zero_add, List.nil_append] at g1 g2
      obtain ⟨a', c', rfl⟩ := own_slice g2
      exact ⟨a', c', w', g1, ⟨⟨vs, SliceAt.of_own g2, fun i x r hx hr' => (hr i x r hx hr').extM g3 (onMaps_nope _)⟩, TypedAt.of_own g2⟩, g3⟩

/-- Rows copied behind a row of one. -/
theorem app_one (w : World) (g : Nat) (x : Value) (b : List UInt8) (hg : w.heap[g]? = some (.cells #[x] 29 (0, 0))) (hx : BytesAt w x b) {v : Value} {rest : List (List UInt8)} (hv : RowsAt w v rest) (hl : rest.length ≤ 1000) :
    ∃ ad' cap' w', (Builtin.append_ #[22, 22] 22 #[.slice (some ⟨g, 0, none⟩) 1 1, v]).run Try.prog w = .ok (.slice ad' (b :: rest).length cap') w' ∧ RowsT 29 w' (.slice ad' (b :: rest).length cap') (b :: rest) ∧ Ext Nope w w' := by
  obtain ⟨vs, ⟨hvl, a, cap, rfl, h1, h2, h3, h4⟩, hr⟩ := hv
  have hcell : w.cell? ⟨g, 0, none⟩ = some x := by simp [World.cell?, hg]
  have hs1 : SliceAt w 1 (.slice (some ⟨g, 0, none⟩) 1 1) 1 [x] := ⟨rfl, _, 1, rfl, Nat.le_refl _, by simp [maxLen], fun e => (by cases e), fun ad e j u hu => by
    cases e
    have : j = 0 := by
      have := (List.getElem?_eq_some_iff.1 hu).1
      simp at this; omega
    subst this
    simp at hu
    subst hu
    simpa [Addr.add] using hcell⟩
  by_cases h0 : rest.length = 0
  · have he : rest = [] := List.eq_nil_of_length_eq_zero h0
    subst he
    refine ⟨_, _, _, app_none22 _ _ _ _ _ _ (Nat.le_refl _), ⟨⟨[x], hs1, fun i y r hy hr' => ?_⟩, fun ad n c hv => ?_⟩, Ext.refl _ _⟩
    · have : i = 0 := by
        have := (List.getElem?_eq_some_iff.1 hy).1
        simp at this; omega
      subst this
      simp at hy hr'
      subst hy; subst hr'
      exact hx
    · simp only [Value.slice.injEq, Option.some.injEq] at hv
      obtain ⟨rfl, -, -⟩ := hv
      exact ⟨_, _, hg⟩
  · cases a with
    | none => have := h3 rfl; omega
    | some ad =>
      obtain ⟨i0, hi, hz0, hz1, hz2⟩ := info_parts info29
      obtain ⟨v', w', g1, g2, g3⟩ := run_append_full (P := Try.prog) w 22 22 29 i0 (.slice none 0 0) 1 24 Try.underlying22 hi hz0 hz1 hz2 rfl (some ⟨g, 0, none⟩) 1 [x] hs1 ad rest.length cap vs hvl (h4 ad rfl) (by omega) (by simp only [maxLen]; omega) (by omega)
      rw [Nat.add_comm 1 rest.length] at g2
      obtain ⟨a', c', rfl⟩ := own_slice g2
      refine ⟨a', c', w', g1, ⟨⟨x :: vs, SliceAt.of_own g2, fun i y r hy hr' => ?_⟩, TypedAt.of_own g2⟩, g3⟩
      cases i with
      | zero =>
        simp at hy hr'
        subst hy; subst hr'
        exact hx.extM g3 (onMaps_nope _)
      | succ i => exact (hr i y r (by simpa using hy) (by simpa using hr')).extM g3 (onMaps_nope _)
end Go.Proofs.Ytjpkhediolahaaa
