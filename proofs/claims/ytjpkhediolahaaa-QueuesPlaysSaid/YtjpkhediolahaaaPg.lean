/- Contract of the reference's Pop. Conditions: the net is in memory as RefAt says, the arguments are ints. -/
import Derived.Test.YtjpkhediolahaaaPf
set_option linter.unusedVariables false
set_option linter.unusedSimpArgs false
set_option linter.unusedSectionVars false
set_option linter.unnecessarySimpa false
namespace Go.Proofs.Ytjpkhediolahaaa
open Go.RowKit Go.Mk Go.Maps

/-- An empty row of the call's own. -/
def EmptyRow (v : Value) (w : World) : Prop := ∃ g, v = .slice (some ⟨g, 0, none⟩) 0 0 ∧ w.heap[g]? = some (.cells #[] 29 (0, 0))
/-- These rows. -/
def TheRows (rows : List (List UInt8)) (v : Value) (w : World) : Prop := ∃ ad cap, v = .slice ad rows.length cap ∧ RowsT 29 w v rows

def RPop (w : World) (r rq rt : Nat) (N : Int) (p : Int × List UInt8 × NS) (e : Ending) (w' : World) : Prop :=
  ∃ v, e = .returned (.tuple #[v, .int .i64 p.1]) ∧ w'.ownsRow w.heap.size 5 1 v p.2.1.length (p.2.1.map byteV) ∧ RefAt w' r rq rt N p.2.2.q p.2.2.tn ∧ Ext (RTwo rq rt) w w'

set_option maxHeartbeats 2000000 in
theorem rpop_any {w r rq rt N} {s : NS} (h : RefAt w r rq rt N s.q s.tn) (c f t : Int) (hbs : ∀ b ∈ s.q (c, f, t), b.length ≤ 100000) (h64 : (s.q (c, f, t)).length ≤ 64) :
    Calls Try.prog 31 #[.pointer (some ⟨r, 0, none⟩), .int .i64 c, .int .i64 f, .int .i64 t] w (RPop w r rq rt N (popM N s (c, f, t))) := by
  have hpk := rpeek_any h c f t 0 hbs
  have hat := fun (w' : World) (he : Ext Nope w w') => at_any r N c f t w' h.few (h.ext he).c0
  unfold peekM at hpk
  unfold popM
  cases hb : isB N (c, f, t)
  · rw [hb] at hpk
    have H := Lib.hid h
    clear h hat
    go_enter Try.func31, Try.ntmps31
    go_wp2_with fail
    refine hpk.mono ?_
    rintro e w' ⟨v, rfl, ho, he⟩
    go_wp2_with fail
    go_ret2
    exact ⟨v, rfl, ho, H.out.ext he, he.nope⟩
  · rw [hb, if_pos rfl, if_pos (by omega)] at hpk
    have H := Lib.hid h
    have HB := Lib.hid hb
    have HAT := Lib.hid hat
    rw [if_pos rfl]
    cases hq : s.q (c, f, t) with
    | nil =>
      rw [hq] at hpk
      clear h hat hb
      go_enter Try.func31, Try.ntmps31
      go_wp2_with fail
      refine hpk.mono ?_
      rintro e w' ⟨v, rfl, ho, he⟩
      go_wp2_with fail
      go_ret2
      exact ⟨v, rfl, ho, H.out.ext he, he.nope⟩
    | cons bs rest =>
      rw [hq] at hpk
      have HQ := Lib.hid hq
      rw [hq] at h64
      simp only [List.length_cons] at h64
      clear h hat hb hq hbs
      go_enter Try.func31, Try.ntmps31
      go_wp2_with fail
      refine hpk.mono ?_
      rintro e w' ⟨v, rfl, ho, he⟩
      go_wp2_with fail
      refine (HAT.out w' he).mono ?_
      rintro e w2 ⟨rfl, he2⟩
      rw [HB.out, if_pos rfl]
      have h2 := H.out.ext (he.trans he2)
      obtain ⟨ad, cap, vs, hc, hrv, htt⟩ := h2.row HB.out
      have hc1 := h2.c1
      obtain ⟨hp1, hp2, hp3⟩ := h2.inside HB.out
      obtain ⟨_, ad', cap', hve, hnc, hcm, hnone, _⟩ := id hrv.1
      simp only [Value.slice.injEq] at hve
      obtain ⟨rfl, -, rfl⟩ := hve
      rw [HQ.out] at hc hrv htt hnc
      simp only [List.length_cons] at hc hrv htt hnc
      have H2 := Lib.hid h2
      have HRV := Lib.hid hrv
      have HO := Lib.hid ho
      have HE := Lib.hid (he.trans he2)
      have HE2 := Lib.hid he2
      generalize hp : place N (c, f, t) = p at *
      generalize hK : places N = K at *
      have HP := Lib.hid hp
      have hk0 : ¬ (p : Int) < 0 := by omega
      have hkK : (p : Int) < (K : Int) := by omega
      clear hpk HAT htt ho h2 hp hK he he2
      go_wp2_with fail
      refine' wp_region_ext 16 52 (by kernel_rfl) rfl (by kernel_rfl) Nope (fun w1 => w1.cell? ⟨r, 1, none⟩ = some (.slice (some ⟨rq, 0, none⟩) K K) ∧ w1.cell? ⟨rq, p, none⟩ = some (.slice ad (rest.length + 1) cap) ∧ RowsV w1 (.slice ad (rest.length + 1) cap) vs (bs :: rest)) ?_ _ ?_ ?_
      · intro y hy
        exact ⟨hy.cell hc1 (fun h => h), hy.cell hc (fun h => h), ⟨HRV.out.1.extM hy (onMaps_nope _), fun i x r hx hr => (HRV.out.2 i x r hx hr).extM hy (onMaps_nope _)⟩⟩
      rotate_left 1
      · iterate 5
          apply Walk.exact
          · rfl
          · rintro ev w1 ⟨ec, eg, ef⟩ hR ⟨hy1, hy2, -⟩
            go_simp
            intros
            go_simp
            exact ⟨Ext.refl _ _, rfl⟩
        apply Walk.fact EmptyRow
        · rfl
        · rintro v w1 w3 _ hx _ _ ⟨g, h1, h3⟩
          exact ⟨g, h1, hx.heap h3 (fun h => h)⟩
        · rintro ev w1 ⟨ec, eg, ef⟩ hR -
          go_simp
          intros
          go_simp
          exact ⟨(Ext.refl _ _).alloc _, w1.heap.size, rfl, (MapKept.heap_alloc w1 _).1⟩
        iterate 7
          apply Walk.exact
          · rfl
          · rintro ev w1 ⟨ec, eg, ef⟩ hR ⟨hy1, hy2, -⟩
            go_simp
            intros
            go_simp
            exact ⟨Ext.refl _ _, rfl⟩
        apply Walk.exact
        · rfl
        · rintro ev w1 ⟨ec, eg, ef⟩ hR -
          go_simp
          intros
          go_simp
          rw [if_pos (by omega)]
          exact ⟨Ext.refl _ _, rfl⟩
        apply Walk.fact (TheRows rest)
        · rfl
        · rintro v w1 w3 _ hx _ _ ⟨a, cp, h1, h3⟩
          exact ⟨a, cp, h1, h3.extH hx (onHard_nope _ _)⟩
        · rintro ev w1 ⟨ec, eg, ef⟩ hR ⟨_, _, hrow⟩
          simp only [sees, Known.find, Op.operands, Call.operands, List.toList_toArray, List.append_toArray, List.nil_append, List.append_nil, ↓reduceIte, Option.some.injEq, Nat.reduceEqDiff, Spec.holds]
          rintro ⟨⟨g, h33, hg⟩, h41, -⟩
          obtain ⟨ad2, cap2, w4, hrun, hrt, he4⟩ := app_rows w1 g hg (rows_tail hrow) (by omega)
          simp only [Does, execOp, resolve, invoke, builtin, h33, h41, Sem.run_bind, Sem.run_pure, Result.andThen_ok, List.map_toArray, List.map_cons, List.map_nil]
          first | rw [hrun] | simp only [hrun]
          exact ⟨he4, ad2, cap2, rfl, hrt⟩
        iterate 1
          apply Walk.exact
          · rfl
          · rintro ev w1 ⟨ec, eg, ef⟩ hR -
            go_simp
            intros
            go_simp
            exact ⟨Ext.refl _ _, rfl⟩
        exact Walk.nil
      · rintro w3 he3 -
        have h3 := H2.out.ext he3
        simp only [Finish]
        rintro v42 ⟨ad2, cap2, rfl, hrt⟩ v33 -
        obtain ⟨hset, heset⟩ := h3.setRow HB.out hrt
        have hf1 := (h3.free p).1
        have hcp := he3.cell hc (fun h => h)
        rw [HP.out] at hset heset
        have hd2 := hset.c2
        have hdt := hset.turn HB.out
        have hf2 := (hset.free p).2
        obtain ⟨hset2, heset2⟩ := hset.setTurn HB.out 0
        have hK : places N = K := by
          have := H2.out.c1
          rw [this] at hc1
          simp only [Option.some.injEq, Value.slice.injEq] at hc1
          exact hc1.2.1
        rw [HP.out] at hdt hset2 heset2
        rw [hK] at hd2
        simp only [show decide ((0 : Int) < 0) = false from rfl] at hset2 heset2
        have HS := Lib.hid hset2
        have HE3 := Lib.hid (((HE.out.trans he3).nope (M := RTwo rq rt)).trans ((heset.mono (fun _ h => .inl h)).trans (heset2.mono (fun _ h => .inr h))))
        have HE4 := Lib.hid (((HE2.out.trans he3).nope (M := RTwo rq rt)).trans ((heset.mono (fun _ h => .inl h)).trans (heset2.mono (fun _ h => .inr h))))
        clear hset hset2 heset heset2 h3 hrt
        go_simp
        go_wp2
        all_goals
          go_ret2
          exact ⟨v, rfl, ownsRow_ext HO.out HE4.out (fun k hk => by rcases hk with rfl | rfl; exact H.out.ltq; exact H.out.ltt), HS.out, HE3.out⟩
end Go.Proofs.Ytjpkhediolahaaa
