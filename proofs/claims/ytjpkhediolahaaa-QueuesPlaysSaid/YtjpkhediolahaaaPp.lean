/- The law's 'does': what a Turn of both nets comes to. Conditions: both nets hold the same. -/
import Derived.Test.YtjpkhediolahaaaPo
set_option linter.unusedVariables false
set_option linter.unusedSimpArgs false
set_option linter.unusedSectionVars false
set_option linter.unnecessarySimpa false
namespace Go.Proofs.Ytjpkhediolahaaa
open Go.RowKit Go.Mk Go.Maps

/-- How far the turning has come. -/
def StT (W : World) (b bq bt r rq rt : Nat) (N : Int) (s s' : NS) (d : Nat → Bool) (w : World) : Prop := Pr W w b bq bt r rq rt N (if d 9 then s' else s) (if d 19 then s' else s)
theorem StT.step {W w : World} {b bq bt r rq rt : Nat} {N : Int} {s s' : NS} {d : Nat → Bool} (h : StT W b bq bt r rq rt N s s' d w) {i : Nat} (h1 : i ≠ 9) (h2 : i ≠ 19) : StT W b bq bt r rq rt N s s' (dset d i) w := by
  unfold StT
  rw [dset_other d h1.symm, dset_other d h2.symm]
  exact h
theorem StT.turnN {W w : World} {b bq bt r rq rt : Nat} {N : Int} {s : NS} {d : Nat → Bool} {c f u k : Int} (h : StT W b bq bt r rq rt N s (turnM N s (c, f, u) k).2 d w) (hd : d 9 = false) (hx : wayOk (c, f, u)) :
    Calls Try.prog 16 #[.pointer (some ⟨b, 0, none⟩), .int .i64 c, .int .i64 f, .int .i64 u, .int .i64 k] w fun e w' => e = .returned (.int .i64 (turnM N s (c, f, u) k).1) ∧ StT W b bq bt r rq rt N s (turnM N s (c, f, u) k).2 (dset d 9) w' ∧ Ext (Four bq bt rq rt) w w' := by
  unfold StT at h ⊢
  rw [hd] at h
  rw [dset_same, dset_other d (by decide)]
  refine (pn_turn h c f u k hx).mono ?_
  rintro e w' ⟨⟨rfl, hp⟩, he⟩
  exact ⟨rfl, hp, he.mono fun k hk => .inl hk⟩
theorem StT.turnY {W w : World} {b bq bt r rq rt : Nat} {N : Int} {s : NS} {d : Nat → Bool} {c f u k : Int} (h : StT W b bq bt r rq rt N s (turnM N s (c, f, u) k).2 d w) (hd : d 19 = false) :
    Calls Try.prog 32 #[.pointer (some ⟨r, 0, none⟩), .int .i64 c, .int .i64 f, .int .i64 u, .int .i64 k] w fun e w' => e = .returned (.int .i64 (turnM N s (c, f, u) k).1) ∧ StT W b bq bt r rq rt N s (turnM N s (c, f, u) k).2 (dset d 19) w' ∧ Ext (Four bq bt rq rt) w w' := by
  unfold StT at h ⊢
  rw [hd] at h
  rw [dset_same, dset_other d (by decide)]
  refine (py_turn h c f u k).mono ?_
  rintro e w' ⟨⟨rfl, hp⟩, he⟩
  exact ⟨rfl, hp, he.mono fun k hk => .inr hk⟩

theorem Dt.four {W w : World} {b bq bt r rq rt : Nat} {N : Int} {s t : NS} {o : Nat} {kd c f u k : Int} {vb : Value} (h : Dt W w b bq bt r rq rt N s t o kd c f u k vb) : ¬ Four bq bt rq rt o := by
  rintro (hm | hm)
  · obtain ⟨es, cl, hb⟩ := h.pr.net.maps _ hm
    have := h.op
    unfold OpAt at this
    rw [hb] at this
    cases this
  · rcases hm with e | e
    · exact h.far.1 e
    · exact h.far.2 e

set_option maxRecDepth 20000 in
set_option maxHeartbeats 4000000 in
theorem does_turn {W w : World} {b bq bt r rq rt : Nat} {N : Int} {s : NS} (h : Pr W w b bq bt r rq rt N s s) (kd c f u k : Int) (vb : Value) (hx : wayOk (c, f, u)) (h1 : -9223372036854775808 ≤ kd) (h2 : kd ≤ 9223372036854775807) (hk : kindOf kd 8 = 7) :
    Calls Try.prog 20 #[.pointer (some ⟨b, 0, none⟩), .pointer (some ⟨r, 0, none⟩), opV kd c f u k vb] w (DoesPost W b bq bt r rq rt N) := by
  have hd := Dt.made h kd c f u k vb
  have HX := Lib.hid hx
  have HD := Lib.hid hd
  have hka := fun w' => kind_any kd 8 w' h1 h2 (by omega) (by omega)
  unfold opV
  rw [hk] at hka
  clear h hx h1 h2 hk
  go_enter Try.func20, Try.ntmps20
  go_wp2_with fail
  refine (hka _).mono ?_
  rintro e w1 ⟨rfl, rfl⟩
  clear hka
  obtain ⟨o0, o1, o2, o3, o4, o5⟩ := hd.op.cells
  clear hd
  go_wp2_with fail
  generalize hw1 : w.alloc (.cells #[.int .i64 kd, .int .i64 c, .int .i64 f, .int .i64 u, .int .i64 k, vb] 46) = w1 at *
  generalize hoo : w.heap.size = o at *
  clear hw1 hoo o0 o1 o2 o3 o4 o5
  refine' wp_region_steps 21 163 (by kernel_rfl) rfl (by kernel_rfl) (Ext (Four bq bt rq rt)) (fun _ => Ext (Four bq bt rq rt)) (fun w2 => Hid (OpAt w2 o kd c f u k vb)) (StT W b bq bt r rq rt N s (turnM N s (c, f, u) k).2) (fun h k => h.trans k) (fun h => h) ?_ ?_ ?_ ?_ _ ?_ ?_
  · exact (Ext.refl _ _).drew
  · exact Lib.hid (HD.out.go (Ext.refl _ _).drew).op
  · exact HD.out.pr.on (Ext.refl _ _).drew
  · intro x y _ hxy hx
    exact Lib.hid (hxy.heap hx.out HD.out.four)
  rotate_left 1
  · iterate 9
      apply Walk3.exact
      · rfl
      · rintro d ev w1 ⟨ec, eg, ef⟩ hR hS hd - hst
        obtain ⟨_, o1, o2, o3, o4, _⟩ := OpAt.cells hS.out
        have HST := Lib.hid hst
        clear hst
        go_simp
        intros
        go_simp
        exact ⟨Ext.refl _ _, HST.out.step (by decide) (by decide), rfl⟩
    apply Walk3.exact (.int .i64 (turnM N s (c, f, u) k).1)
    · rfl
    · rintro d ev w1 ⟨ec, eg, ef⟩ hR hS hd - hst
      have hdi : d 9 = false := hd
      have HC := Lib.hid (StT.turnN hst hdi HX.out)
      clear hst
      go_simp
      intros
      go_simp
      refine HC.out.mono ?_
      rintro e w2 ⟨rfl, hs2, he2⟩
      exact ⟨_, rfl, he2, hs2, rfl⟩
    iterate 9
      apply Walk3.exact
      · rfl
      · rintro d ev w1 ⟨ec, eg, ef⟩ hR hS hd - hst
        obtain ⟨_, o1, o2, o3, o4, _⟩ := OpAt.cells hS.out
        have HST := Lib.hid hst
        clear hst
        go_simp
        intros
        go_simp
        exact ⟨Ext.refl _ _, HST.out.step (by decide) (by decide), rfl⟩
    apply Walk3.exact (.int .i64 (turnM N s (c, f, u) k).1)
    · rfl
    · rintro d ev w1 ⟨ec, eg, ef⟩ hR hS hd - hst
      have hdi : d 19 = false := hd
      have HC := Lib.hid (StT.turnY hst hdi)
      clear hst
      go_simp
      intros
      go_simp
      refine HC.out.mono ?_
      rintro e w2 ⟨rfl, hs2, he2⟩
      exact ⟨_, rfl, he2, hs2, rfl⟩
    iterate 1
      apply Walk3.exact
      · rfl
      · rintro d ev w1 ⟨ec, eg, ef⟩ hR hS hd - hst
        obtain ⟨_, o1, o2, o3, o4, _⟩ := OpAt.cells hS.out
        have HST := Lib.hid hst
        clear hst
        go_simp
        intros
        go_simp
        exact ⟨Ext.refl _ _, HST.out.step (by decide) (by decide), rfl⟩
    exact Walk3.nil
  · rintro d w3 he3 - hall hst
    simp only [Finish]
    have h9 := hall 9 (by decide)
    have h19 := hall 19 (by decide)
    unfold StT at hst
    rw [h9, h19] at hst
    have HST := Lib.hid hst
    clear hst
    go_simp
    go_wp2_with fail
    go_ret
    exact ⟨rfl, _, HST.out⟩
end Go.Proofs.Ytjpkhediolahaaa
