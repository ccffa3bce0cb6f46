/- Stores into the reference's net. Conditions: the net is in memory as RefAt says. -/
import Derived.Test.YtjpkhediolahaaaPd
set_option linter.unusedVariables false
set_option linter.unusedSimpArgs false
set_option linter.unusedSectionVars false
set_option linter.unnecessarySimpa false
namespace Go.Proofs.Ytjpkhediolahaaa
open Go.RowKit Go.Mk Go.Maps

theorem place_inj {N : Int} (hN : 0 ≤ N ∧ N ≤ 16) {x y : Way} (hx : isB N x = true) (hy : isB N y = true) (h : place N x = place N y) : x = y := by
  obtain ⟨c, f, t⟩ := x
  obtain ⟨c', f', t'⟩ := y
  obtain ⟨a1, a2, a3, a4, a5, a6⟩ := isB_spec.1 hx
  obtain ⟨b1, b2, b3, b4, b5, b6⟩ := isB_spec.1 hy
  obtain ⟨_, p2, _⟩ := place_lt hN hx
  obtain ⟨_, q2, _⟩ := place_lt hN hy
  unfold place at h
  simp only at h p2 q2
  have h1 : (c * N + f) * N + t = (c' * N + f') * N + t' := by omega
  have h2 : ((c * N + f) * N + t) / N = c * N + f := by
    rw [Int.add_comm, Int.add_mul_ediv_right _ _ (by omega), Int.ediv_eq_zero_of_lt a5 a6, Int.zero_add]
  have h3 : ((c' * N + f') * N + t') / N = c' * N + f' := by
    rw [Int.add_comm, Int.add_mul_ediv_right _ _ (by omega), Int.ediv_eq_zero_of_lt b5 b6, Int.zero_add]
  have h4 : c * N + f = c' * N + f' := by rw [← h2, h1, h3]
  have h5 : (c * N + f) / N = c := by
    rw [Int.add_comm, Int.add_mul_ediv_right _ _ (by omega), Int.ediv_eq_zero_of_lt a3 a4, Int.zero_add]
  have h6 : (c' * N + f') / N = c' := by
    rw [Int.add_comm, Int.add_mul_ediv_right _ _ (by omega), Int.ediv_eq_zero_of_lt b3 b4, Int.zero_add]
  have h7 : c = c' := by rw [← h5, h4, h6]
  subst h7
  have h8 : f = f' := by omega
  subst h8
  have h9 : t = t' := by omega
  subst h9
  rfl

theorem heap_setCell_same {w : World} {b : Nat} {cs : Array Value} {e : TypeId} {fr : Nat × Nat} (hb : w.heap[b]? = some (.cells cs e fr)) (p : Nat) (v : Value) : (w.setCell ⟨b, p, none⟩ v).heap[b]? = some (.cells (cs.setIfInBounds p v) e fr) := by
  simp only [World.setCell]
  rw [Array.getElem?_modify, if_pos rfl, hb]
  simp

theorem RefAt.hardq {w r rq rt N q tn} (h : RefAt w r rq rt N q tn) : OnHard 29 (· = rq) w := fun k hk => h.hard k (.inl hk)
theorem RefAt.hardt {w r rq rt N q tn} (h : RefAt w r rq rt N q tn) : OnHard 29 (· = rt) w := fun k hk => h.hard k (.inr hk)

theorem RefAt.setRow {w r rq rt N q tn} (h : RefAt w r rq rt N q tn) {x : Way} (hx : isB N x = true) {ad : Option Addr} {n cap : Nat} {rows : List (List UInt8)} (hr : RowsT 29 w (.slice ad n cap) rows) :
    RefAt (w.setCell ⟨rq, place N x, none⟩ (.slice ad n cap)) r rq rt N (upd q x rows) tn ∧ Ext (· = rq) w (w.setCell ⟨rq, place N x, none⟩ (.slice ad n cap)) := by
  have he : Ext (· = rq) w (w.setCell ⟨rq, place N x, none⟩ (.slice ad n cap)) := (Ext.refl _ w).setCell (p := ⟨_, place N x, none⟩) (Or.inl (by rfl)) _
  have hM := h.hardq
  obtain ⟨cs, h1, h2, h3, h4⟩ := h.qs
  refine ⟨⟨he.heap h.hdr h.rnq, h.ne, h.few, ⟨cs.setIfInBounds (place N x) (.slice ad n cap), heap_setCell_same h1 _ _, by simpa using h2, ?_, ?_⟩, h.ts.extH he (fun e => h.ne e.symm)⟩, he⟩
  · intro j kd z
    rw [Array.getElem?_setIfInBounds]
    split
    · split <;> simp
    · exact h3 j kd z
  · intro y hy
    by_cases e : y = x
    · subst e
      refine ⟨.slice ad n cap, ?_, ?_⟩
      · have := (h.inside hy).1
        rw [Array.getElem?_setIfInBounds_self_of_lt (by omega)]
      · rw [upd_same]
        exact hr.extH he hM
    · obtain ⟨v, hv, hrv⟩ := h4 y hy
      refine ⟨v, ?_, ?_⟩
      · rw [Array.getElem?_setIfInBounds_ne (fun e' => e (place_inj h.few hy hx e'.symm))]
        exact hv
      · rw [upd_other _ _ e]
        exact hrv.extH he hM

theorem RefAt.setTurn {w r rq rt N q tn} (h : RefAt w r rq rt N q tn) {x : Way} (hx : isB N x = true) (n : Int) :
    RefAt (w.setCell ⟨rt, place N x, none⟩ (.bool (decide (0 < n)))) r rq rt N q (upd tn x n) ∧ Ext (· = rt) w (w.setCell ⟨rt, place N x, none⟩ (.bool (decide (0 < n)))) := by
  have he : Ext (· = rt) w (w.setCell ⟨rt, place N x, none⟩ (.bool (decide (0 < n)))) := (Ext.refl _ w).setCell (p := ⟨_, place N x, none⟩) (Or.inl (by rfl)) _
  have hM := h.hardt
  obtain ⟨ts, h1, h2, h3, h4⟩ := h.ts
  refine ⟨⟨he.heap h.hdr h.rnt, h.ne, h.few, h.qs.extH he hM h.ne, ⟨ts.setIfInBounds (place N x) (.bool (decide (0 < n))), heap_setCell_same h1 _ _, by simpa using h2, ?_, ?_⟩⟩, he⟩
  · intro j kd z
    rw [Array.getElem?_setIfInBounds]
    split
    · split <;> simp
    · exact h3 j kd z
  · intro y hy
    by_cases e : y = x
    · subst e
      have := (h.inside hy).1
      rw [Array.getElem?_setIfInBounds_self_of_lt (by omega), upd_same]
    · rw [Array.getElem?_setIfInBounds_ne (fun e' => e (place_inj h.few hy hx e'.symm)), upd_other _ _ e]
      exact h4 y hy

theorem RefAt.free {w r rq rt N q tn} (h : RefAt w r rq rt N q tn) (p : Nat) : w.frozen? ⟨rq, p, none⟩ = false ∧ w.frozen? ⟨rt, p, none⟩ = false := by
  obtain ⟨cs, h1, _⟩ := h.qs
  obtain ⟨ts, h2, _⟩ := h.ts
  simp [World.frozen?, h1, h2]
end Go.Proofs.Ytjpkhediolahaaa
