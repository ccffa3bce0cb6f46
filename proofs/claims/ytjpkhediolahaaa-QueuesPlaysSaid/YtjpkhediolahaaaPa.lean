/- The reference's net in memory; contracts of its 'at'. Conditions: the net is in memory as RefAt says, the arguments are ints. -/
import Derived.Test.YtjpkhediolahaaaQm
import Derived.Handy
set_option linter.unusedVariables false
set_option linter.unusedSimpArgs false
set_option linter.unusedSectionVars false
set_option linter.unnecessarySimpa false
namespace Go.Proofs.Ytjpkhediolahaaa
open Go.RowKit Go.Mk Go.Maps

/-- A queue's place. -/
def place (N : Int) (x : Way) : Nat := ((x.1 * N + x.2.1) * N + x.2.2).toNat
/-- How many places there are. -/
def places (N : Int) : Nat := (2 * N * N).toNat

theorem isB_spec {N c f t : Int} : isB N (c, f, t) = true ↔ (0 ≤ c ∧ c < 2 ∧ 0 ≤ f ∧ f < N ∧ 0 ≤ t ∧ t < N) := by
  unfold isB
  simp
theorem place_lt {N : Int} {x : Way} (hN : 0 ≤ N ∧ N ≤ 16) (h : isB N x = true) : place N x < places N ∧ 0 ≤ (x.1 * N + x.2.1) * N + x.2.2 ∧ (x.1 * N + x.2.1) * N + x.2.2 ≤ 1000 ∧ 0 ≤ x.1 * N + x.2.1 ∧ x.1 * N + x.2.1 ≤ 100 ∧ 0 ≤ x.1 * N ∧ x.1 * N ≤ 50 ∧ 0 ≤ (x.1 * N + x.2.1) * N ∧ (x.1 * N + x.2.1) * N ≤ 900 := by
  obtain ⟨c, f, t⟩ := x
  obtain ⟨h1, h2, h3, h4, h5, h6⟩ := isB_spec.1 h
  unfold place places
  simp only
  have hc : c = 0 ∨ c = 1 := by omega
  have hNN : 0 ≤ N * N := Int.mul_nonneg hN.1 hN.1
  have hfN : f * N ≤ (N - 1) * N := Int.mul_le_mul_of_nonneg_right (by omega) hN.1
  have hf0 : 0 ≤ f * N := Int.mul_nonneg h3 hN.1
  have hN2 : N * N ≤ 16 * N := Int.mul_le_mul_of_nonneg_right hN.2 hN.1
  have e0 : (N - 1) * N = N * N - N := by rw [Int.sub_mul]; omega
  have e2 : 2 * N * N = 2 * (N * N) := by rw [Int.mul_assoc]
  rcases hc with rfl | rfl
  · have e1 : (0 * N + f) * N = f * N := by rw [Int.zero_mul, Int.zero_add]
    rw [e1, e2]
    omega
  · have e1 : (1 * N + f) * N = N * N + f * N := by rw [Int.one_mul, Int.add_mul]
    rw [e1, e2]
    omega

def AtPost (N : Int) (x : Way) (w : World) (e : Ending) (w' : World) : Prop := e = .returned (.int .i64 (if isB N x then ((place N x : Nat) : Int) else -1)) ∧ Ext Nope w w'

theorem at_no {N c f t : Int} {w w' : World} (h : ¬ (0 ≤ c ∧ c < 2 ∧ 0 ≤ f ∧ f < N ∧ 0 ≤ t ∧ t < N)) (he : Ext Nope w w') : AtPost N (c, f, t) w (.returned (.int .i64 (-1))) w' := by
  have : isB N (c, f, t) = false := by
    cases hb : isB N (c, f, t)
    · rfl
    · exact absurd (isB_spec.1 hb) h
  exact ⟨by rw [this]; rfl, he⟩

set_option maxHeartbeats 2000000 in
theorem at_any (r : Nat) (N c f t : Int) (w : World) (hN : 0 ≤ N ∧ N ≤ 16) (hq : w.cell? ⟨r, 0, none⟩ = some (.int .i64 N)) :
   Calls Try.prog 34 #[.pointer (some ⟨r, 0, none⟩), .int .i64 c, .int .i64 f, .int .i64 t] w (AtPost N (c, f, t) w) := by
  by_cases h : 0 ≤ c ∧ c < 2 ∧ 0 ≤ f ∧ f < N ∧ 0 ≤ t ∧ t < N
  · have hb := isB_spec.2 h
    obtain ⟨p1, p2, p3, p4, p5, p6, p7, p8, p9⟩ := place_lt hN hb
    simp only at p2 p3 p4 p5 p6 p7 p8 p9
    have hp : ((place N (c, f, t) : Nat) : Int) = (c * N + f) * N + t := by unfold place; simp only; omega
    obtain ⟨h1, h2, h3, h4, h5, h6⟩ := h
    have HP := Lib.hid hp
    have HB := Lib.hid hb
    have d1 : ¬ c < 0 := by omega
    have d2 : ¬ 1 < c := by omega
    have d3 : ¬ f < 0 := by omega
    have d4 : ¬ N ≤ f := by omega
    have d5 : ¬ t < 0 := by omega
    have d6 : ¬ N ≤ t := by omega
    clear hp hb
    go_enter Try.func34, Try.ntmps34
    go_wp2
    go_region
    go_wp2
    go_ret
    exact ⟨by rw [HB.out, if_pos rfl, HP.out]; rfl, (Ext.refl _ _).drew⟩
  · by_cases d1 : c < 0
    · go_enter Try.func34, Try.ntmps34
      go_wp2
      go_ret
      exact at_no h (Ext.refl _ _)
    · by_cases d2 : 1 < c
      · go_enter Try.func34, Try.ntmps34
        go_wp2
        go_ret
        exact at_no h (Ext.refl _ _)
      · by_cases d3 : f < 0
        · go_enter Try.func34, Try.ntmps34
          go_wp2
          go_ret
          exact at_no h (Ext.refl _ _)
        · by_cases d4 : N ≤ f
          · go_enter Try.func34, Try.ntmps34
            go_wp2
            go_ret
            exact at_no h (Ext.refl _ _)
          · by_cases d5 : t < 0
            · go_enter Try.func34, Try.ntmps34
              go_wp2
              go_ret
              exact at_no h (Ext.refl _ _)
            · by_cases d6 : N ≤ t
              · go_enter Try.func34, Try.ntmps34
                go_wp2
                go_ret
                exact at_no h (Ext.refl _ _)
              · exact absurd (by omega) h
end Go.Proofs.Ytjpkhediolahaaa
