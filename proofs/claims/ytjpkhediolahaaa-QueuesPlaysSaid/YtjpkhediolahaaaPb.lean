/- The reference's net in memory; contracts of its Len, Room, Peek. Conditions: the net is in memory as RefAt says, the arguments are ints. -/
import Derived.Test.YtjpkhediolahaaaPa
import Derived.Test.YtjpkhediolahaaaOpen
set_option linter.unusedVariables false
set_option linter.unusedSimpArgs false
set_option linter.unusedSectionVars false
set_option linter.unnecessarySimpa false
namespace Go.Proofs.Ytjpkhediolahaaa
open Go.RowKit Go.Mk Go.Maps

/-- The rows, one behind the other. -/
def RefRows (w : World) (rq : Nat) (N : Int) (q : Way → List (List UInt8)) : Prop :=
  ∃ cs : Array Value, w.heap[rq]? = some (.cells cs 22 (0, 0)) ∧ cs.size = places N ∧ (∀ (j : Nat) (kd : IntKind) (z : Int), cs[j]? ≠ some (.int kd z)) ∧ ∀ x, isB N x = true → ∃ v, cs[place N x]? = some v ∧ RowsT 29 w v (q x)
/-- Whether each one's first batch is turned. -/
def RefTurns (w : World) (rt : Nat) (N : Int) (tn : Way → Int) : Prop :=
  ∃ ts : Array Value, w.heap[rt]? = some (.cells ts 4 (0, 0)) ∧ ts.size = places N ∧ (∀ (j : Nat) (kd : IntKind) (z : Int), ts[j]? ≠ some (.int kd z)) ∧ ∀ x, isB N x = true → ts[place N x]? = some (.bool (decide (0 < tn x)))
structure RefAt (w : World) (r rq rt : Nat) (N : Int) (q : Way → List (List UInt8)) (tn : Way → Int) : Prop where
  hdr : w.heap[r]? = some (.cells #[.int .i64 N, .slice (some ⟨rq, 0, none⟩) (places N) (places N), .slice (some ⟨rt, 0, none⟩) (places N) (places N)] 59 (0, 0))
  ne : rq ≠ rt
  few : 0 ≤ N ∧ N ≤ 16
  qs : RefRows w rq N q
  ts : RefTurns w rt N tn

theorem RefAt.c0 {w r rq rt N q tn} (h : RefAt w r rq rt N q tn) : w.cell? ⟨r, 0, none⟩ = some (.int .i64 N) := by simp [World.cell?, h.hdr]
theorem RefAt.c1 {w r rq rt N q tn} (h : RefAt w r rq rt N q tn) : w.cell? ⟨r, 1, none⟩ = some (.slice (some ⟨rq, 0, none⟩) (places N) (places N)) := by simp [World.cell?, h.hdr]
theorem RefAt.c2 {w r rq rt N q tn} (h : RefAt w r rq rt N q tn) : w.cell? ⟨r, 2, none⟩ = some (.slice (some ⟨rt, 0, none⟩) (places N) (places N)) := by simp [World.cell?, h.hdr]
theorem RefAt.lt {w r rq rt N q tn} (h : RefAt w r rq rt N q tn) : r < w.heap.size := (Array.getElem?_eq_some_iff.1 h.hdr).1
theorem RefAt.ltq {w r rq rt N q tn} (h : RefAt w r rq rt N q tn) : rq < w.heap.size := by
  obtain ⟨cs, hb, _⟩ := h.qs
  exact (Array.getElem?_eq_some_iff.1 hb).1
theorem RefAt.ltt {w r rq rt N q tn} (h : RefAt w r rq rt N q tn) : rt < w.heap.size := by
  obtain ⟨cs, hb, _⟩ := h.ts
  exact (Array.getElem?_eq_some_iff.1 hb).1
theorem RefAt.rnq {w r rq rt N q tn} (h : RefAt w r rq rt N q tn) : r ≠ rq := by
  intro e
  obtain ⟨cs, hb, _⟩ := h.qs
  have := h.hdr
  rw [e, hb] at this
  simp at this
theorem RefAt.rnt {w r rq rt N q tn} (h : RefAt w r rq rt N q tn) : r ≠ rt := by
  intro e
  obtain ⟨cs, hb, _⟩ := h.ts
  have := h.hdr
  rw [e, hb] at this
  simp at this
/-- The reference's own memory holds no rows' memory and no bytes. -/
def RTwo (rq rt : Nat) : Nat → Prop := fun k => k = rq ∨ k = rt
theorem RefAt.hard {w r rq rt N q tn} (h : RefAt w r rq rt N q tn) : OnHard 29 (RTwo rq rt) w := by
  rintro k (rfl | rfl)
  · obtain ⟨cs, hb, _, hz, _⟩ := h.qs
    exact .inr ⟨_, _, _, hb, by decide, hz⟩
  · obtain ⟨cs, hb, _, hz, _⟩ := h.ts
    exact .inr ⟨_, _, _, hb, by decide, hz⟩
theorem RefRows.extH {M : Nat → Prop} {w w' : World} {rq : Nat} {N : Int} {q : Way → List (List UInt8)} (h : RefRows w rq N q) (he : Ext M w w') (hM : OnHard 29 M w) (hn : ¬ M rq) : RefRows w' rq N q := by
  obtain ⟨cs, h1, h2, h3, h4⟩ := h
  refine ⟨cs, he.heap h1 hn, h2, h3, fun x hx => ?_⟩
  obtain ⟨v, hv, hr⟩ := h4 x hx
  exact ⟨v, hv, hr.extH he hM⟩
theorem RefTurns.extH {M : Nat → Prop} {w w' : World} {rt : Nat} {N : Int} {tn : Way → Int} (h : RefTurns w rt N tn) (he : Ext M w w') (hn : ¬ M rt) : RefTurns w' rt N tn := by
  obtain ⟨cs, h1, h2⟩ := h
  exact ⟨cs, he.heap h1 hn, h2⟩
theorem RefAt.extH {M : Nat → Prop} {w w' : World} {r rq rt : Nat} {N : Int} {q : Way → List (List UInt8)} {tn : Way → Int} (h : RefAt w r rq rt N q tn) (he : Ext M w w') (hM : OnHard 29 M w) (h0 : ¬ M r) (h1 : ¬ M rq) (h2 : ¬ M rt) : RefAt w' r rq rt N q tn :=
  ⟨he.heap h.hdr h0, h.ne, h.few, h.qs.extH he hM h1, h.ts.extH he h2⟩
theorem RefAt.ext {w w' : World} {r rq rt : Nat} {N : Int} {q : Way → List (List UInt8)} {tn : Way → Int} (h : RefAt w r rq rt N q tn) (he : Ext Nope w w') : RefAt w' r rq rt N q tn :=
  h.extH he (onHard_nope _ _) (fun h => h) (fun h => h) (fun h => h)

/-- The row at x: where it lies. -/
theorem RefAt.row {w r rq rt N q tn} (h : RefAt w r rq rt N q tn) {x : Way} (hx : isB N x = true) :
    ∃ ad cap vs, w.cell? ⟨rq, place N x, none⟩ = some (.slice ad (q x).length cap) ∧ RowsV w (.slice ad (q x).length cap) vs (q x) ∧ TypedAt w 29 (.slice ad (q x).length cap) := by
  obtain ⟨cs, h1, h2, h3, h4⟩ := h.qs
  obtain ⟨v, hv, ⟨⟨vs, hs, hr⟩, ht⟩⟩ := h4 x hx
  obtain ⟨_, ad, cap, rfl, _⟩ := id hs
  exact ⟨ad, cap, vs, by simp [World.cell?, h1, hv], ⟨hs, hr⟩, ht⟩
theorem RefAt.turn {w r rq rt N q tn} (h : RefAt w r rq rt N q tn) {x : Way} (hx : isB N x = true) : w.cell? ⟨rt, place N x, none⟩ = some (.bool (decide (0 < tn x))) := by
  obtain ⟨cs, h1, h2, h3, h4⟩ := h.ts
  simp [World.cell?, h1, h4 x hx]
theorem RefAt.inside {w r rq rt N q tn} (h : RefAt w r rq rt N q tn) {x : Way} (hx : isB N x = true) : place N x < places N ∧ place N x ≤ 1000 ∧ places N ≤ 512 := by
  obtain ⟨p1, p2, p3, _⟩ := place_lt h.few hx
  refine ⟨p1, ?_, ?_⟩
  · unfold Ytjpkhediolahaaa.place
    omega
  · have h1 := h.few
    have hN2 : N * N ≤ 16 * N := Int.mul_le_mul_of_nonneg_right h1.2 h1.1
    have e2 : 2 * N * N = 2 * (N * N) := by rw [Int.mul_assoc]
    unfold places
    rw [e2]
    omega

def IntPost (n : Int) (w : World) (e : Ending) (w' : World) : Prop := e = .returned (.int .i64 n) ∧ Ext Nope w w'

set_option maxHeartbeats 1000000 in
theorem rlen_any {w r rq rt N q tn} (h : RefAt w r rq rt N q tn) (c f t : Int) :
    Calls Try.prog 22 #[.pointer (some ⟨r, 0, none⟩), .int .i64 c, .int .i64 f, .int .i64 t] w (IntPost (if isB N (c, f, t) then ((q (c, f, t)).length : Int) else 0) w) := by
  have hat := at_any r N c f t w h.few h.c0
  cases hb : isB N (c, f, t)
  · have HB := Lib.hid hb
    clear h
    go_enter Try.func22, Try.ntmps22
    go_wp2_with fail
    refine hat.mono ?_
    rintro e w' ⟨rfl, he⟩
    rw [HB.out]
    go_wp2_with fail
    go_ret
    exact ⟨rfl, he⟩
  · have HB := Lib.hid hb
    have H := Lib.hid h
    clear h
    go_enter Try.func22, Try.ntmps22
    go_wp2_with fail
    refine hat.mono ?_
    rintro e w' ⟨rfl, he⟩
    rw [HB.out, if_pos rfl]
    have h' := H.out.ext he
    obtain ⟨ad, cap, vs, hc, _, _⟩ := h'.row HB.out
    obtain ⟨hp1, hp2, hp3⟩ := h'.inside HB.out
    have hc1 := h'.c1
    generalize place N (c, f, t) = k at *
    generalize places N = K at *
    have hk0 : ¬ (k : Int) < 0 := by omega
    have hkK : (k : Int) < (K : Int) := by omega
    clear hb h'
    go_wp2_with fail
    go_ret
    exact ⟨rfl, he⟩
end Go.Proofs.Ytjpkhediolahaaa
