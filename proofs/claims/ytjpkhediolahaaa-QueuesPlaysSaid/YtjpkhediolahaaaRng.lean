/- Ranging over a map that stays as it is. Conditions: each lemma bears its own. -/
import Derived.Test.YtjpkhediolahaaaBase
import Derived.Maps.RangeRun
set_option linter.unusedVariables false
set_option linter.unusedSimpArgs false
set_option linter.unusedSectionVars false
set_option linter.unnecessarySimpa false
namespace Go.Mk
open Go Go.Maps Go.MapKept
section
variable {κ : Type} {P : Program} {kt : TypeId} {enc : κ → Value} {ok : κ → Prop}

/-- Block r is an iterator over the map of block b; 'todo': which keys are still to come. -/
def RangeAt (P : Program) (kt : TypeId) (enc : κ → Value) (ok : κ → Prop) (w : World) (b r : Nat) (M : κ → Option Value) (todo : κ → Prop) : Prop :=
  ∃ (es : Array MapEntry) (clock since : Nat) (seen : Array Nat) (c0 : Nat), w.heap[b]? = some (.map es clock) ∧ Stamped es clock ∧ (∀ e ∈ es.toList, ∃ x, ok x ∧ e.key = enc x ∧ M x = some e.val) ∧ (∀ x v, M x = some v → ok x ∧ ∃ e ∈ es.toList, e.key = enc x ∧ e.val = v) ∧
    w.heap[r]? = some (.mapIter (some b) since seen c0) ∧ (∀ e ∈ es.toList, e.born < since) ∧ since ≤ c0 ∧ since ≤ clock ∧ (∀ x, todo x ↔ ∃ e ∈ es.toList, e.key = enc x ∧ seen.contains e.born = false)

/-- How many are still to come. -/
def toCome (w : World) (b r : Nat) : Nat :=
  match w.heap[r]?, w.heap[b]? with
  | some (.mapIter _ _ seen _), some (.map es _) => (leftOf es seen).size
  | _, _ => 0

/-- The entry that came last. -/
def Stepped (w : World) (b r : Nat) (key val : Value) : Prop :=
  ∃ (es : Array MapEntry) (clock since : Nat) (seen : Array Nat) (e : MapEntry), w.heap[b]? = some (.map es clock) ∧ Stamped es clock ∧ e ∈ es.toList ∧ e.key = key ∧ e.val = val ∧ w.heap[r]? = some (.mapIter (some b) since (seen.push e.born) clock)

theorem RangeAt.map {w : World} {b r : Nat} {M : κ → Option Value} {todo : κ → Prop} (h : RangeAt P kt enc ok w b r M todo) : MapAt P kt enc ok w b M := by
  obtain ⟨es, clock, since, seen, c0, h1, h2, h3, h4, _⟩ := h
  exact ⟨es, clock, h1, h2, h3, h4⟩
theorem RangeAt.ne {w : World} {b r : Nat} {M : κ → Option Value} {todo : κ → Prop} (h : RangeAt P kt enc ok w b r M todo) : r ≠ b := by
  obtain ⟨es, clock, since, seen, c0, h1, h2, h3, h4, h5, _⟩ := h
  intro e
  rw [e, h1] at h5
  cases h5
theorem RangeAt.ext {N : Nat → Prop} {w w' : World} {b r : Nat} {M : κ → Option Value} {todo : κ → Prop} (h : RangeAt P kt enc ok w b r M todo) (he : Ext N w w') (hb : ¬ N b) (hr : ¬ N r) : RangeAt P kt enc ok w' b r M todo := by
  obtain ⟨es, clock, since, seen, c0, h1, h2, h3, h4, h5, h6⟩ := h
  exact ⟨es, clock, since, seen, c0, he.heap h1 hb, h2, h3, h4, he.heap h5 hr, h6⟩
theorem toCome_ext {N : Nat → Prop} {w w' : World} {b r : Nat} {M : κ → Option Value} {todo : κ → Prop} (h : RangeAt P kt enc ok w b r M todo) (he : Ext N w w') (hb : ¬ N b) (hr : ¬ N r) : toCome w' b r = toCome w b r := by
  obtain ⟨es, clock, since, seen, c0, h1, h2, h3, h4, h5, h6⟩ := h
  unfold toCome
  rw [he.heap h1 hb, he.heap h5 hr, h1, h5]
theorem Stepped.ext {N : Nat → Prop} {w w' : World} {b r : Nat} {key val : Value} (h : Stepped w b r key val) (he : Ext N w w') (hb : ¬ N b) (hr : ¬ N r) : Stepped w' b r key val := by
  obtain ⟨es, clock, since, seen, e, h1, h2, h3, h4, h5, h6⟩ := h
  exact ⟨es, clock, since, seen, e, he.heap h1 hb, h2, h3, h4, h5, he.heap h6 hr⟩

theorem MapAt.range {w : World} {b : Nat} {M : κ → Option Value} (h : MapAt P kt enc ok w b M) (E : Enc P kt enc ok) {t e : TypeId} (ht : P.underlying t = some (.map kt e)) :
    ∃ w', (Instr.range t (.map (some b))).run P w = .ok (.pointer (some ⟨w.heap.size, 0, none⟩)) w' ∧ Ext Nope w w' ∧ RangeAt P kt enc ok w' b w.heap.size M (fun x => (M x).isSome = true) := by
  obtain ⟨es, clock, hb, hs, hk, hv⟩ := h
  have hlt : b < w.heap.size := (Array.getElem?_eq_some_iff.1 hb).1
  refine ⟨w.alloc (.mapIter (some b) clock #[] clock), ?_, (Ext.refl _ _).alloc _, es, clock, clock, #[], clock, ?_, hs, hk, hv, (MapKept.heap_alloc w _).1, fun e he => ((stamped_iff es clock).1 hs).1 e he, Nat.le_refl _, Nat.le_refl _, fun x => ⟨fun hx => ?_, fun ⟨e, he, hke, _⟩ => ?_⟩⟩
  · simp [Instr.range, run_underlying ht, MapKept.run_getObj_map hb, newObj, Result.andThen]
    rfl
  · rw [(MapKept.heap_alloc w _).2 b hlt]; exact hb
  · obtain ⟨v, hm⟩ := Option.isSome_iff_exists.1 hx
    obtain ⟨_, e, he, hke, _⟩ := hv x v hm
    exact ⟨e, he, hke, by simp⟩
  · obtain ⟨y, hy, hky, hM⟩ := hk e he
    have : y = x := E.inj _ _ (hky.symm.trans hke)
    rw [← this, hM]
    rfl

theorem born_inj {es : List MapEntry} (h : (es.map (·.born)).Nodup) {a b : MapEntry} (ha : a ∈ es) (hb : b ∈ es) (e : a.born = b.born) : a = b := by
  obtain ⟨i, hi⟩ := List.getElem?_of_mem ha
  obtain ⟨j, hj⟩ := List.getElem?_of_mem hb
  have hil := (List.getElem?_eq_some_iff.1 hi).1
  have hjl := (List.getElem?_eq_some_iff.1 hj).1
  have hie := (List.getElem?_eq_some_iff.1 hi).2
  have hje := (List.getElem?_eq_some_iff.1 hj).2
  have : i = j := by
    rcases Nat.lt_trichotomy i j with h' | h' | h'
    · have := List.pairwise_iff_getElem.1 h i j (by simpa using hil) (by simpa using hjl) h'
      simp only [List.getElem_map, hie, hje] at this
      exact absurd e this
    · exact h'
    · have := List.pairwise_iff_getElem.1 h j i (by simpa using hjl) (by simpa using hil) h'
      simp only [List.getElem_map, hie, hje] at this
      exact absurd e.symm this
  subst this
  rw [← hie, ← hje]
theorem key_inj {es : List MapEntry} (h : es.Pairwise (fun x y => x.key ≠ y.key)) {a b : MapEntry} (ha : a ∈ es) (hb : b ∈ es) (e : a.key = b.key) : a = b := by
  obtain ⟨i, hi⟩ := List.getElem?_of_mem ha
  obtain ⟨j, hj⟩ := List.getElem?_of_mem hb
  have hil := (List.getElem?_eq_some_iff.1 hi).1
  have hjl := (List.getElem?_eq_some_iff.1 hj).1
  have hie := (List.getElem?_eq_some_iff.1 hi).2
  have hje := (List.getElem?_eq_some_iff.1 hj).2
  have : i = j := by
    rcases Nat.lt_trichotomy i j with h' | h' | h'
    · have := List.pairwise_iff_getElem.1 h i j hil hjl h'
      rw [hie, hje] at this
      exact absurd e this
    · exact h'
    · have := List.pairwise_iff_getElem.1 h j i hjl hil h'
      rw [hie, hje] at this
      exact absurd e.symm this
  subst this
  rw [← hie, ← hje]
theorem left_drop {es : Array MapEntry} {seen : Array Nat} {e : MapEntry} (he : e ∈ (leftOf es seen).toList) : (leftOf es (seen.push e.born)).size < (leftOf es seen).size := by
  unfold leftOf at *
  rw [Array.toList_filter] at he
  have sz : ∀ (p : MapEntry → Bool), (es.filter p).size = (es.toList.filter p).length := fun p => by rw [← Array.toList_filter, Array.length_toList]
  rw [sz, sz]
  have e1 : es.toList.filter (fun x => !(seen.push e.born).contains x.born) = (es.toList.filter (fun x => !seen.contains x.born)).filter (fun x => x.born != e.born) := by
    rw [List.filter_filter]
    congr 1
    funext x
    simp [bne, Bool.and_comm]
    cases h : (x.born == e.born) <;> simp_all
  rw [e1]
  generalize es.toList.filter (fun x => !seen.contains x.born) = l at *
  have : ∀ l : List MapEntry, e ∈ l → (l.filter (fun x => x.born != e.born)).length < l.length := by
    intro l
    induction l with
    | nil => intro h; cases h
    | cons a l ih =>
      intro h
      by_cases ha : a.born = e.born
      · have h1 := List.length_filter_le (fun x : MapEntry => x.born != e.born) l
        simp [List.filter_cons, ha]
        omega
      · have hm : e ∈ l := by
          rcases List.mem_cons.1 h with rfl | h
          · exact absurd rfl ha
          · exact h
        have := ih hm
        rw [List.filter_cons, if_pos (by simpa using ha)]
        simp only [List.length_cons]
        omega
  exact this l he

theorem Stepped.entry {w : World} {b r : Nat} {key val : Value} (h : Stepped w b r key val) : (Instr.entry (.pointer (some ⟨r, 0, none⟩))).run P w = .ok (.tuple #[key, val]) w := by
  obtain ⟨es, clock, since, seen, e, h1, h2, h3, rfl, rfl, h6⟩ := h
  exact run_entry_at w r b since seen es clock e h6 h1 h3 ((stamped_iff es clock).1 h2).2.1

theorem RangeAt.next {w : World} {b r : Nat} {M : κ → Option Value} {todo : κ → Prop} (h : RangeAt P kt enc ok w b r M todo) (E : Enc P kt enc ok) (ty : TypeId) :
    ((∀ x, ¬ todo x) ∧ (Instr.next (.pointer (some ⟨r, 0, none⟩)) false ty).run P w = .ok (.tuple #[.bool false]) w) ∨
    ∃ x v w1, ok x ∧ todo x ∧ M x = some v ∧ (Instr.next (.pointer (some ⟨r, 0, none⟩)) false ty).run P w = .ok (.tuple #[.bool true, enc x, v]) w1 ∧ Ext (· = r) w w1 ∧
      RangeAt P kt enc ok w1 b r M (fun y => todo y ∧ y ≠ x) ∧ Stepped w1 b r (enc x) v ∧ toCome w1 b r < toCome w b r := by
  obtain ⟨es, clock, since, seen, c0, h1, h2, h3, h4, h5, h6, h7, h9, h8⟩ := h
  have hst := (stamped_iff es clock).1 h2
  rcases run_next_at (P := P) w ty r b since c0 seen es clock h5 h1 h6 h7 with ⟨h0, hrun⟩ | ⟨e, he, w1, hw1, hrun⟩
  · refine .inl ⟨fun x hx => ?_, hrun⟩
    obtain ⟨e, he, _, hs⟩ := (h8 x).1 hx
    have : e ∈ leftOf es seen := by simp [leftOf] at he ⊢; exact ⟨he, by simpa using hs⟩
    have hpos : 0 < (leftOf es seen).size := Array.size_pos_of_mem this
    omega
  · obtain ⟨hem, hsn⟩ := mem_left he
    obtain ⟨x, hx, hke, hM⟩ := h3 e hem
    have hb1 : w1.heap = w.heap := by rcases hw1 with rfl | rfl <;> rfl
    have hext1 : Ext Nope w w1 := by
      rcases hw1 with rfl | rfl
      · exact Ext.refl _ _
      · exact (Ext.refl _ _).drew
    have hr1 : w1.heap[r]? = some (.mapIter (some b) since seen c0) := by rw [hb1]; exact h5
    have hrb : b ≠ r := fun e => by rw [e, h5] at h1; cases h1
    have hb2 : (ChangeMaps.setBlock w1 r (.mapIter (some b) since (seen.push e.born) clock)).heap[b]? = some (.map es clock) := by
      rw [show (ChangeMaps.setBlock w1 r (.mapIter (some b) since (seen.push e.born) clock)).heap[b]? = w1.heap[b]? from (heap_set hr1).2 b hrb, hb1]
      exact h1
    have hr2 : (ChangeMaps.setBlock w1 r (.mapIter (some b) since (seen.push e.born) clock)).heap[r]? = some (.mapIter (some b) since (seen.push e.born) clock) := (heap_set hr1).1
    have hsc : since ≤ clock := h9
    refine .inr ⟨x, e.val, _, hx, (h8 x).2 ⟨e, hem, hke, hsn⟩, hM, by rw [← hke]; exact hrun, ?_, ⟨es, clock, since, seen.push e.born, clock, hb2, h2, h3, h4, hr2, h6, hsc, hsc, fun y => ?_⟩, ⟨es, clock, since, seen, e, hb2, h2, hem, hke, rfl, hr2⟩, ?_⟩
    · exact hext1.nope.trans (one_set hr1).ext
    · constructor
      · rintro ⟨hy, hne⟩
        obtain ⟨e', he', hke', hs'⟩ := (h8 y).1 hy
        refine ⟨e', he', hke', ?_⟩
        have : e'.born ≠ e.born := fun hbn => hne (by
          have : e' = e := born_inj hst.2.1 he' hem hbn
          subst this
          exact E.inj _ _ (hke'.symm.trans hke))
        simp at hs' ⊢
        exact ⟨hs', this⟩
      · rintro ⟨e', he', hke', hs'⟩
        simp at hs'
        refine ⟨(h8 y).2 ⟨e', he', hke', by simpa using hs'.1⟩, fun hyx => ?_⟩
        subst hyx
        have : e' = e := by
          have hk2 : e'.key = e.key := by rw [hke', hke]
          exact key_inj hst.2.2 he' hem hk2
        subst this
        exact hs'.2 rfl
    · unfold toCome
      rw [hb2, hr2, h1, h5]
      exact left_drop he

end
end Go.Mk
