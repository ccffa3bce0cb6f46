/- The reference's Push: what its region's appends do. Conditions: each lemma bears its own. -/
import Derived.Test.YtjpkhediolahaaaPi
import Derived.Test.YtjpkhediolahaaaRegt
import Derived.Laws.OwnMore
import Derived.ArgAppend
set_option linter.unusedVariables false
set_option linter.unusedSimpArgs false
set_option linter.unusedSectionVars false
set_option linter.unnecessarySimpa false
namespace Go.Proofs.Ytjpkhediolahaaa
open Go.RowKit Go.Mk Go.Maps

/-- An empty row of the call's own, of this type. -/
def NewRow (B : Nat) (e : TypeId) (v : Value) (w : World) : Prop := ∃ g, B ≤ g ∧ v = .slice (some ⟨g, 0, none⟩) 0 0 ∧ w.heap[g]? = some (.cells #[] e (0, 0))
/-- A row of the call's own that holds these. -/
def OwnRow (B : Nat) (e : TypeId) (n : Nat) (xs : List Value) (v : Value) (w : World) : Prop :=
  ∃ g cap, v = .slice (some ⟨g, 0, none⟩) n cap ∧ w.ownsRow B e 1 v n xs ∧ (n = 0 → cap = 0)
/-- A row of one batch of the call's own. -/
def RowB1 (B : Nat) (bs : List UInt8) (v : Value) (w : World) : Prop :=
  ∃ g x, B ≤ g ∧ v = .slice (some ⟨g, 0, none⟩) 1 1 ∧ w.heap[g]? = some (.cells #[x] 29 (0, 0)) ∧ OwnRow B 5 bs.length (bs.map byteV) x w
/-- These and one batch more. -/
def RowMore (B : Nat) (n : Nat) (vs : List Value) (bs : List UInt8) (v : Value) (w : World) : Prop :=
  ∃ x, OwnRow B 5 bs.length (bs.map byteV) x w ∧ OwnRow B 29 (n + 1) (vs ++ [x]) v w

/-- New rows of at least two may have turned, not in their first n. -/
structure Step (B n : Nat) (w w' : World) : Prop where
  os : w'.os = w.os
  tape : w'.tape = w.tape
  output : w'.output = w.output
  size : w.heap.size ≤ w'.heap.size
  block : ∀ k, k < w.heap.size → w'.heap[k]? = w.heap[k]? ∨ (B ≤ k ∧ ∃ c c' : Array Value, w.heap[k]? = some (.cells c 29 (0, 0)) ∧ w'.heap[k]? = some (.cells c' 29 (0, 0)) ∧ 2 ≤ c.size ∧ c'.size = c.size ∧ c'.toList.take n = c.toList.take n)
def PQ (B n i : Nat) (w w' : World) : Prop := Step B n w w' ∧ (i ≠ 18 → Ext Nope w w')

theorem Step.of {B n : Nat} {w w' : World} (h : Ext Nope w w') : Step B n w w' := ⟨h.os, h.tape, h.output, h.size, fun k hk => .inl (h.block k hk (fun h => h))⟩
theorem PQ.of {B n i : Nat} {w w' : World} (h : Ext Nope w w') : PQ B n i w w' := ⟨.of h, fun _ => h⟩
theorem Step.ext {B n : Nat} {w w' : World} (h : Step B n w w') : Ext (fun k => B ≤ k) w w' :=
  ⟨h.os, h.tape, h.output, h.size, fun k hk hn => by
    rcases h.block k hk with h | ⟨h, _⟩
    · exact h
    · exact absurd h hn⟩

theorem NewRow.step {B n : Nat} {e : TypeId} {v : Value} {w w' : World} (h : NewRow B e v w) (hs : Step B n w w') : NewRow B e v w' := by
  obtain ⟨g, h1, h2, h3⟩ := h
  refine ⟨g, h1, h2, ?_⟩
  rcases hs.block g (Array.getElem?_eq_some_iff.1 h3).1 with h | ⟨_, c, c', h4, _, h5, _⟩
  · rw [h, h3]
  · rw [h3] at h4
    simp at h4
    rw [h4.1] at h5
    simp at h5
theorem OwnRow.step5 {B n m : Nat} {xs : List Value} {v : Value} {w w' : World} (h : OwnRow B 5 m xs v w) (hs : Step B n w w') : OwnRow B 5 m xs v w' := by
  obtain ⟨g, cap, rfl, ⟨h1, h2⟩, h0⟩ := h
  refine ⟨g, cap, rfl, ⟨h1, .inr ?_⟩, h0⟩
  rcases h2 with ⟨h2, _⟩ | ⟨g', cap', cur, h2, h3, h4, h5⟩
  · simp at h2
  · refine ⟨g', cap', cur, h2, h3, ?_, h5⟩
    rcases hs.block g' (Array.getElem?_eq_some_iff.1 h4).1 with h | ⟨_, c, c', h6, _⟩
    · rw [h, h4]
    · rw [h4] at h6
      simp at h6
theorem OwnRow.step29 {B n : Nat} {xs : List Value} {v : Value} {w w' : World} (h : OwnRow B 29 n xs v w) (hs : Step B n w w') : OwnRow B 29 n xs v w' := by
  obtain ⟨g, cap, rfl, ⟨h1, h2⟩, h0⟩ := h
  refine ⟨g, cap, rfl, ⟨h1, .inr ?_⟩, h0⟩
  rcases h2 with ⟨h2, _⟩ | ⟨g', cap', cur, h2, h3, h4, h5, h6, h7, h8⟩
  · simp at h2
  · rcases hs.block g' (Array.getElem?_eq_some_iff.1 h4).1 with h | ⟨_, c, c', h9, ha, hb, hc, hd⟩
    · exact ⟨g', cap', cur, h2, h3, by rw [h, h4], h5, h6, h7, h8⟩
    · rw [h4] at h9
      simp at h9
      subst h9
      exact ⟨g', cap', c', h2, h3, ha, h5, h6, by rw [hc, h7], by rw [← h8]; simpa using hd⟩
theorem RowB1.step {B n : Nat} {bs : List UInt8} {v : Value} {w w' : World} (h : RowB1 B bs v w) (hs : Step B n w w') : RowB1 B bs v w' := by
  obtain ⟨g, x, h1, h2, h3, h4⟩ := h
  refine ⟨g, x, h1, h2, ?_, h4.step5 hs⟩
  rcases hs.block g (Array.getElem?_eq_some_iff.1 h3).1 with h | ⟨_, c, c', h5, _, h6, _⟩
  · rw [h, h3]
  · rw [h3] at h5
    simp at h5
    first | rw [h5] at h6 | rw [← h5] at h6
    simp at h6
theorem OwnRow.ext {B m : Nat} {e : TypeId} {xs : List Value} {v : Value} {w w' : World} (h : OwnRow B e m xs v w) (he : Ext Nope w w') : OwnRow B e m xs v w' := by
  obtain ⟨g, cap, rfl, h1, h0⟩ := h
  exact ⟨g, cap, rfl, ownsRow_ext h1 he (fun _ h => h.elim), h0⟩
theorem RowMore.ext {B n : Nat} {vs : List Value} {bs : List UInt8} {v : Value} {w w' : World} (h : RowMore B n vs bs v w) (he : Ext Nope w w') : RowMore B n vs bs v w' := by
  obtain ⟨x, h1, h2⟩ := h
  exact ⟨x, h1.ext he, h2.ext he⟩

theorem own_empty {w : World} {B g : Nat} {e : TypeId} (hB : B ≤ g) (hg : w.heap[g]? = some (.cells #[] e (0, 0))) : w.ownsRow B e 1 (.slice (some ⟨g, 0, none⟩) 0 0) 0 [] :=
  ⟨rfl, .inr ⟨g, 0, #[], rfl, hB, hg, Nat.le_refl _, Nat.zero_le _, rfl, rfl⟩⟩

/-- A row copied behind an empty row. -/
theorem app_copy {t e : TypeId} {z : Value} {bytes : Nat} (hu : Try.prog.underlying t = some (.slice e)) (hi : (Try.prog.info? e).map (fun i => (i.zero, i.size, i.bytes)) = some (some z, 1, bytes)) (hz : z.cells.size = 1) (hby : bytes ≤ 24)
    (hnone : ∀ (w : World) (g : Addr) (a : Option Addr) (c : Nat), (Builtin.append_ #[t, t] t #[.slice (some g) 0 0, .slice a 0 c]).run Try.prog w = .ok (.slice (some g) 0 0) w)
    {w : World} {B : Nat} {v0 : Value} (hB : B ≤ w.heap.size) (h0 : NewRow B e v0 w) {v : Value} {n : Nat} {xs : List Value} (hs : SliceAt w 1 v n xs) (hn : n ≤ 100000) :
    ∃ v' w', (Builtin.append_ #[t, t] t #[v0, v]).run Try.prog w = .ok v' w' ∧ OwnRow B e n xs v' w' ∧ Ext Nope w w' := by
  obtain ⟨g, h1, rfl, h3⟩ := h0
  have hown := own_empty h1 h3
  obtain ⟨hl, a, cap, rfl, hc1, hc2, hc3, hc4⟩ := hs
  by_cases hn0 : n = 0
  · subst hn0
    have hx : xs = [] := List.eq_nil_of_length_eq_zero (by simpa using hl)
    subst hx
    exact ⟨_, _, hnone _ _ _ _, ⟨g, 0, rfl, hown, fun _ => rfl⟩, Ext.refl _ _⟩
  · cases a with
    | none => have := hc3 rfl; omega
    | some ad =>
      obtain ⟨i0, hi, hz0, hz1, hz2⟩ := info_parts hi
      have hb : n * bytes ≤ 100000 * 24 := Nat.mul_le_mul hn hby
      obtain ⟨v', w', g1, g2, g3⟩ := run_append_full (P := Try.prog) w t t e i0 z 1 bytes hu hi hz0 hz1 hz2 hz (some ⟨g, 0, none⟩) 0 [] (SliceAt.of_own hown) ad n cap xs hl (hc4 ad rfl) (by omega) (by simp only [maxLen]; omega) (by rw [Nat.zero_add]; omega)
      simp only [Nat.zero_add, List.nil_append] at g1 g2
      obtain ⟨a', c', rfl⟩ := own_slice g2
      obtain ⟨g', cur, rfl, _⟩ := own_head g2 (by omega)
      exact ⟨_, w', g1, ⟨g', c', rfl, ownsRow_base g2 hB, fun h => absurd h hn0⟩, g3⟩

/-- One batch more behind the row. -/
theorem app_more {w : World} {B n : Nat} {vs : List Value} {bs : List UInt8} {v v1 : Value} (hB : B ≤ w.heap.size) (h : OwnRow B 29 n vs v w) (h1 : RowB1 B bs v1 w) (hn : n ≤ 1000) :
    ∃ v' w', (Builtin.append_ #[22, 22] 22 #[v, v1]).run Try.prog w = .ok v' w' ∧ RowMore B n vs bs v' w' ∧ Step B n w w' := by
  obtain ⟨g, cap, rfl, hown, hcap⟩ := h
  obtain ⟨g1, x, k1, rfl, k2, k3⟩ := h1
  obtain ⟨i0, hi, hz0, hz1, hz2⟩ := info_parts info29
  have hnews : ∀ j u, [x][j]? = some u → w.cell? (Addr.add ⟨g1, 0, none⟩ j) = some u := by
    intro j u hu
    have : j = 0 := by
      have := (List.getElem?_eq_some_iff.1 hu).1
      simp at this; omega
    subst this
    simp at hu
    subst hu
    simp [Addr.add, World.cell?, k2]
  by_cases hr : n + 1 ≤ cap
  · have hn0 : n ≠ 0 := fun e => by have := hcap e; omega
    obtain ⟨w', hrun, ho, hg⟩ := run_append_fits (P := Try.prog) w B 22 22 29 i0 1 Try.underlying22 hi hz1 g n cap vs hown ⟨g1, 0, none⟩ 1 1 [x] (by simp) hnews (by
      intro u hu
      simp at hu
      subst hu
      obtain ⟨_, _, rfl, _⟩ := k3
      rfl) hr
    have hst : Step B n w w' := by
      refine ⟨hg.os, hg.tape, hg.output, hg.size, fun k hk => ?_⟩
      by_cases e : k = g
      · subst e
        rcases hown.2 with ⟨h2, _⟩ | ⟨g', cap', cur, h2, h3, h4, h5, h6, h7, h8⟩
        · simp at h2
        · simp only [Value.slice.injEq, Option.some.injEq, Addr.mk.injEq, and_true, true_and] at h2
          obtain ⟨rfl, rfl⟩ := h2
          rcases ho.2 with ⟨h2', _⟩ | ⟨g2, cap2, cur2, h2', h3', h4', h5', h6', h7', h8'⟩
          · simp at h2'
          · simp only [Value.slice.injEq, Option.some.injEq, Addr.mk.injEq, and_true, true_and] at h2'
            obtain ⟨rfl, rfl⟩ := h2'
            refine .inr ⟨h3, cur, cur2, h4, h4', by omega, by omega, ?_⟩
            have hl : vs.length = n := by simpa using hown.1
            have e1 : cur2.toList.take (n + 1) = vs ++ [x] := by simpa using h8'
            have e2 : cur.toList.take n = vs := by simpa using h8
            have : (cur2.toList.take (n + 1)).take n = vs := by rw [e1, List.take_left' hl]
            rw [List.take_take, Nat.min_eq_left (by omega)] at this
            rw [this, e2]
      · exact .inl (hg.block k hk (by simpa using e))
    exact ⟨_, w', hrun, ⟨x, k3.step5 hst, g, cap, rfl, ho, fun h => by omega⟩, hst⟩
  · obtain ⟨v', w', hrun, ho, hg⟩ := run_append_arg_grows (P := Try.prog) w 22 22 29 i0 (.slice none 0 0) 1 24 Try.underlying22 hi hz0 hz1 hz2 rfl (by omega) ⟨g, 0, none⟩ n cap vs hown.1 (fun j u hu => hown.cells rfl j u hu) ⟨g1, 0, none⟩ 1 1 [x] (by simp) hnews (by omega) (by simp only [maxLen]; omega) (by omega)
    have he : Ext Nope w w' := (Ext.refl Nope w).grown hg (fun k h => by cases h)
    obtain ⟨a', c', rfl⟩ := own_slice ho
    obtain ⟨g', cur, rfl, _⟩ := own_head ho (by omega)
    exact ⟨_, w', hrun, ⟨x, k3.ext he, g', c', rfl, ownsRow_base ho hB, fun h => by omega⟩, .of he⟩

/-- .. which are the rows and the batch. -/
theorem RowMore.rows {w : World} {B : Nat} {v v0 : Value} {rows : List (List UInt8)} {vs : List Value} {bs : List UInt8} (hr : RowsV w v0 vs rows) (h : RowMore B rows.length vs bs v w) :
    ∃ ad cap, v = .slice ad (rows ++ [bs]).length cap ∧ RowsT 29 w v (rows ++ [bs]) := by
  obtain ⟨x, ⟨gx, cx, hx1, hx, _⟩, g, cap, rfl, ho, _⟩ := h
  have hl : vs.length = rows.length := by simpa using hr.1.1
  refine ⟨_, cap, by simp; rfl, ⟨vs ++ [x], by simpa using SliceAt.of_own ho, fun i y r hy hr' => ?_⟩, TypedAt.of_own ho⟩
  by_cases hi : i < rows.length
  · rw [List.getElem?_append_left (by omega)] at hy hr'
    exact hr.2 i y r hy hr'
  · have hi2 : i = rows.length := by
      have := (List.getElem?_eq_some_iff.1 hr').1
      simp at this; omega
    subst hi2
    rw [List.getElem?_append_right (by omega)] at hy hr'
    simp [hl] at hy hr'
    subst hy; subst hr'
    exact SliceAt.of_own hx
end Go.Proofs.Ytjpkhediolahaaa
