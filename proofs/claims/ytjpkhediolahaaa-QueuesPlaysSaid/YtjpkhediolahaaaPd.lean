/- Contract of the reference's Empty. Conditions: the net is in memory as RefAt says; a queue that is none has nothing. -/
import Derived.Test.YtjpkhediolahaaaPc
set_option linter.unusedVariables false
set_option linter.unusedSimpArgs false
set_option linter.unusedSectionVars false
set_option linter.unnecessarySimpa false
namespace Go.Proofs.Ytjpkhediolahaaa
open Go.RowKit Go.Mk Go.Maps

theorem unplace {N : Int} (hN : 0 ≤ N ∧ N ≤ 16) {p : Nat} (hp : p < places N) : ∃ x, isB N x = true ∧ place N x = p := by
  obtain ⟨n, rfl⟩ := Int.eq_ofNat_of_zero_le hN.1
  have hp' : p < 2 * n * n := by
    unfold places at hp
    have e : (2 * (n : Int) * (n : Int)) = ((2 * n * n : Nat) : Int) := by simp [Int.natCast_mul]
    rw [e, Int.toNat_natCast] at hp
    exact hp
  have hn : 0 < n := by
    rcases Nat.eq_zero_or_pos n with h | h
    · subst h; simp at hp'
    · exact h
  have h1 : p / n < 2 * n := Nat.div_lt_of_lt_mul (by rw [Nat.mul_comm]; exact hp')
  have h2 : p / n / n < 2 := Nat.div_lt_of_lt_mul (by rw [Nat.mul_comm]; omega)
  have h3 : p / n % n < n := Nat.mod_lt _ hn
  have h4 : p % n < n := Nat.mod_lt _ hn
  have e1 : n * (p / n) + p % n = p := Nat.div_add_mod p n
  have e2 : n * (p / n / n) + p / n % n = p / n := Nat.div_add_mod (p / n) n
  rw [← e2] at e1
  generalize p / n / n = a at *
  generalize p / n % n = b at *
  generalize p % n = c at *
  refine ⟨((a : Int), (b : Int), (c : Int)), isB_spec.2 ⟨by omega, by omega, by omega, by omega, by omega, by omega⟩, ?_⟩
  unfold place
  simp only
  have e3 : ((((a : Nat) : Int) * (n : Int) + ((b : Nat) : Int)) * (n : Int) + ((c : Nat) : Int)) = (p : Int) := by
    have e4 : (a * n + b) * n + c = p := by rw [Nat.mul_comm a n, Nat.mul_comm]; exact e1
    rw [← e4]
    simp [Int.natCast_mul, Int.natCast_add]
  rw [e3]
  simp

set_option maxHeartbeats 1000000 in
theorem rempty_any {w r rq rt N q tn} (h : RefAt w r rq rt N q tn) (hout : ∀ x, isB N x = false → q x = []) :
    Calls Try.prog 24 #[.pointer (some ⟨r, 0, none⟩)] w (BoolPost w (emptyB q)) := by
  have hc1 := h.c1
  have hK : places N ≤ 512 := by
    by_cases h0 : 0 < places N
    · obtain ⟨x, hx, _⟩ := unplace h.few h0
      exact (h.inside hx).2.2
    · omega
  have H := Lib.hid h
  have HO := Lib.hid hout
  have HW : Hid (∀ p, p < places N → ∃ x, isB N x = true ∧ place N x = p) := fun p hp => unplace h.few hp
  have HP : Hid (∀ x, isB N x = true → place N x < places N) := fun x hx => (h.inside hx).1
  clear h hout
  obtain ⟨K, hKe⟩ : ∃ K, K = places N := ⟨_, rfl⟩
  rw [← hKe] at hc1 hK HW HP
  have HKE := Lib.hid hKe
  clear hKe
  go_enter Try.func24, Try.ntmps24
  go_wp2_with fail
  go_loopw [3] (fun i wr => ∃ p : Nat, p ≤ K ∧ i = .int .i64 p ∧ wr = w ∧ ∀ x, isB N x = true → place N x < p → q x = []) (fun i _ => K - (intOf i).toNat)
  case atStart => exact ⟨0, Nat.zero_le _, rfl, rfl, fun x _ h => absurd h (Nat.not_lt_zero _)⟩
  case round =>
    obtain ⟨p, hp, rfl, rfl, hdone⟩ := hrel
    have HD := Lib.hid hdone
    clear hdone
    by_cases hpK : p < K
    · obtain ⟨x, hx, hxp⟩ := HW.out p hpK
      obtain ⟨ad, cap, vs, hc, _, _⟩ := H.out.row hx
      rw [hxp] at hc
      have HX := Lib.hid hx
      have HXP := Lib.hid hxp
      have hpK' : (p : Int) < (K : Int) := by omega
      clear hx hxp
      generalize hl : (q x).length = l at *
      have HL := Lib.hid hl
      clear hl
      by_cases hl0 : l = 0
      · subst hl0
        go_wp2_with fail
        go_roundw
        case rel =>
          refine ⟨p + 1, by omega, by go_num, by first | rfl | trivial, fun y hy hyp => ?_⟩
          by_cases e : place N y < p
          · exact HD.out y hy e
          · have e2 : place N y = place N x := by have := HXP.out; omega
            have : RefRows _ rq N q := H.out.qs
            obtain ⟨cs, _, _, _, h4⟩ := this
            obtain ⟨v1, hv1, hr1⟩ := h4 y hy
            obtain ⟨v2, hv2, hr2⟩ := h4 x HX.out
            rw [e2, hv2] at hv1
            cases hv1
            obtain ⟨⟨_, ⟨_, a1, c1, he1, _⟩, _⟩, _⟩ := hr1
            obtain ⟨⟨_, ⟨_, a2, c2, he2, _⟩, _⟩, _⟩ := hr2
            rw [he1] at he2
            simp only [Value.slice.injEq] at he2
            have := HL.out
            exact List.eq_nil_of_length_eq_zero (by omega)
        case measure => simp [intOf]; omega
      · have hl' : (0 : Int) < (l : Int) := by omega
        have hl2 : 0 < l := by omega
        have hB : emptyB q = false := by
          obtain ⟨c, f, t⟩ := x
          have hb := isB_spec.1 HX.out
          have hf := H.out.few
          refine emptyB_false (x := (c, f, t)) (wok _ _ _ (by omega) (by omega) (by omega)) fun e => ?_
          have := HL.out
          rw [e] at this
          simp at this
          omega
        have HB := Lib.hid hB
        clear hB
        go_wp2_with fail
        go_ret
        exact ⟨by rw [HB.out]; rfl, Ext.refl _ _⟩
    · have hpe : p = K := by omega
      subst hpe
      have hB : emptyB q = true := emptyB_true fun x _ => by
        cases hb : isB N x
        · exact HO.out x hb
        · exact HD.out x hb (HP.out x hb)
      have HB := Lib.hid hB
      clear hB
      go_wp2_with fail
      go_ret
      exact ⟨by rw [HB.out]; rfl, Ext.refl _ _⟩
end Go.Proofs.Ytjpkhediolahaaa
