/- Contract of the reference's Turn. Conditions: the net is in memory as RefAt says, the arguments are ints. -/
import Derived.Test.YtjpkhediolahaaaPg
set_option linter.unusedVariables false
set_option linter.unusedSimpArgs false
set_option linter.unusedSectionVars false
set_option linter.unnecessarySimpa false
namespace Go.Proofs.Ytjpkhediolahaaa
open Go.RowKit Go.Mk Go.Maps

/-- A row of one, of the call's own. -/
def RowOfOne (b : List UInt8) (v : Value) (w : World) : Prop := ∃ g x, v = .slice (some ⟨g, 0, none⟩) 1 1 ∧ w.heap[g]? = some (.cells #[x] 29 (0, 0)) ∧ BytesAt w x b
def RCode (w : World) (r rq rt : Nat) (N : Int) (p : Int × NS) (e : Ending) (w' : World) : Prop := e = .returned (.int .i64 p.1) ∧ RefAt w' r rq rt N p.2.q p.2.tn ∧ Ext (RTwo rq rt) w w'

set_option maxHeartbeats 4000000 in
theorem rturn_any {w r rq rt N} {s : NS} (h : RefAt w r rq rt N s.q s.tn) (c f t k : Int) (hbs : ∀ b ∈ s.q (c, f, t), b.length ≤ 100000) (h64 : (s.q (c, f, t)).length ≤ 64) :
    Calls Try.prog 32 #[.pointer (some ⟨r, 0, none⟩), .int .i64 c, .int .i64 f, .int .i64 t, .int .i64 k] w (RCode w r rq rt N (turnM N s (c, f, t) k)) := by
  have hpk := rpeek_any h c f t 0 hbs
  have hat := fun (w' : World) (he : Ext Nope w w') => at_any r N c f t w' h.few (h.ext he).c0
  unfold peekM at hpk
  unfold turnM
  cases hb : isB N (c, f, t)
  · rw [hb] at hpk
    have H := Lib.hid h
    clear h hat
    go_enter Try.func32, Try.ntmps32
    go_wp2_with fail
    refine hpk.mono ?_
    rintro e w' ⟨v, rfl, ho, he⟩
    go_wp2_with fail
    go_ret
    exact ⟨rfl, H.out.ext he, he.nope⟩
  · rw [hb, if_pos rfl, if_pos (by omega)] at hpk
    have H := Lib.hid h
    have HB := Lib.hid hb
    have HAT := Lib.hid hat
    rw [if_pos rfl]
    cases hq : s.q (c, f, t) with
    | nil =>
      rw [hq] at hpk
      clear h hat hb
      go_enter Try.func32, Try.ntmps32
      go_wp2_with fail
      refine hpk.mono ?_
      rintro e w' ⟨v, rfl, ho, he⟩
      go_wp2_with fail
      go_ret
      exact ⟨rfl, H.out.ext he, he.nope⟩
    | cons bs rest =>
      rw [hq] at hpk
      have HQ := Lib.hid hq
      rw [hq] at h64
      simp only [List.length_cons] at h64
      have hbl : bs.length ≤ 100000 := hbs bs (by rw [hq]; simp)
      have hpk' : Calls Try.prog 23 #[.pointer (some ⟨r, 0, none⟩), .int .i64 c, .int .i64 f, .int .i64 t, .int .i64 0] w (RPeek w (0, bs)) := hpk
      clear h hat hb hq hbs hpk
      simp only
      by_cases hno : k < 0 ∨ (bs.length : Int) ≤ k ∨ 0 < s.tn (c, f, t)
      · rw [if_pos hno]
        have HNO := Lib.hid hno
        have fin : ∀ w4, Ext Nope w w4 → RCode w r rq rt N (1, s) (.returned (.int .i64 1)) w4 := fun w4 he => ⟨rfl, H.out.ext he, he.nope⟩
        have HF := Lib.hid fin
        clear hno fin
        go_enter Try.func32, Try.ntmps32
        go_wp2_with fail
        refine hpk'.mono ?_
        rintro e w' ⟨v, rfl, ho, he⟩
        obtain ⟨a7, cap7, rfl⟩ := own_slice ho
        go_wp2_with fail
        refine (HAT.out w' he).mono ?_
        rintro e w2 ⟨rfl, he2⟩
        rw [HB.out, if_pos rfl]
        have h2 := H.out.ext (he.trans he2)
        have hc2 := h2.c2
        have hct := h2.turn HB.out
        obtain ⟨hp1, hp2, hp3⟩ := h2.inside HB.out
        have HE := Lib.hid (he.trans he2)
        generalize hp : place N (c, f, t) = p at *
        generalize hK : places N = K at *
        have hkK : (p : Int) < (K : Int) := by omega
        clear hpk' HAT ho h2 hp hK he he2
        by_cases hk0 : k < 0
        · go_wp2_with fail
          go_ret
          exact HF.out _ HE.out
        · by_cases hk1 : (bs.length : Int) ≤ k
          · go_wp2_with fail
            go_ret
            exact HF.out _ HE.out
          · have hdt : decide (0 < s.tn (c, f, t)) = true := by
              have := HNO.out
              rw [decide_eq_true_eq]
              omega
            rw [hdt] at hct
            go_wp2_with fail
            go_ret
            exact HF.out _ HE.out
      · rw [if_neg hno]
        obtain ⟨n, rfl⟩ := Int.eq_ofNat_of_zero_le (show 0 ≤ k by omega)
        have hnl : n < bs.length := by omega
        have htf : decide (0 < s.tn (c, f, t)) = false := by rw [decide_eq_false_iff_not]; omega
        simp only [Int.toNat_natCast]
        clear hno
        go_enter Try.func32, Try.ntmps32
        go_wp2_with fail
        refine hpk'.mono ?_
        rintro e w' ⟨v, rfl, ho, he⟩
        obtain ⟨a7, cap7, rfl⟩ := own_slice ho
        go_wp2_with fail
        refine (HAT.out w' he).mono ?_
        rintro e w2 ⟨rfl, he2⟩
        rw [HB.out, if_pos rfl]
        have h2 := H.out.ext (he.trans he2)
        have hc2 := h2.c2
        have hct := h2.turn HB.out
        rw [htf] at hct
        obtain ⟨hp1, hp2, hp3⟩ := h2.inside HB.out
        have ho2 := ownsRow_ext ho he2 (fun _ h => h.elim)
        obtain ⟨g, cur, rfl, hg1, hg2, hg3, hg4, hg5, hg6⟩ := own_head ho2 (by omega)
        have hlc : n < cur.size := by omega
        obtain ⟨y, hy⟩ : ∃ y, y = bs.getD n 0 := ⟨_, rfl⟩
        have hkc : w2.cell? ⟨g, n, none⟩ = some (.int .u8 y.toNat) := by
          have h1 : (cur.toList.take bs.length)[n]? = some cur[n] := by simp [hnl, hlc]
          rw [hg4] at h1
          simp only [World.cell?, hg2]
          have h3 : cur[n] = byteV y := by
            rw [hy]
            simp [hnl] at h1
            simp [hnl, ← h1]
          simp [hlc, h3, byteV]
        have hkf : w2.frozen? ⟨g, n, none⟩ = false := by simp [World.frozen?, hg2]
        have hxo := xor_one y
        have hbv : byteV (y ^^^ 1) = Value.int .u8 ((y.toNat ^^^ 1 : Nat) : Int) := by
          unfold byteV
          congr 1
        have hown3 := own_set (w := w2) hg1 hg2 hg3 hg4 hg5 hg6 n (y ^^^ 1)
        have he3 : Ext Nope w (w2.setCell ⟨g, n, none⟩ (byteV (y ^^^ 1))) := (he.trans he2).setCell (.inr hg1) _
        have h3 := H.out.ext he3
        have hf3 := (h3.free (place N (c, f, t))).2
        have hct3 := h3.turn HB.out
        rw [htf] at hct3
        have hd3 := h3.c2
        obtain ⟨h4, he4⟩ := h3.setTurn HB.out 1
        rw [show decide ((0 : Int) < 1) = true from rfl] at h4 he4
        rw [hbv] at hown3 he3 h3 hf3 hct3 hd3 h4 he4
        have hown4 := ownsRow_ext hown3 he4 (fun k hk => by rw [hk]; exact H.out.ltt)
        have H4 := Lib.hid h4
        have HE4 := Lib.hid ((he3.nope (M := RTwo rq rt)).trans (he4.mono (fun _ h => .inr h)))
        have HO4 := Lib.hid hown4
        have HY := Lib.hid hy
        generalize hp : place N (c, f, t) = p at *
        generalize hK : places N = K at *
        have HP := Lib.hid hp
        have HKK := Lib.hid hK
        have hkK : (p : Int) < (K : Int) := by omega
        have hk0 : ¬ (n : Int) < 0 := by omega
        have hk1 : ¬ (bs.length : Int) ≤ (n : Int) := by omega
        have hk2 : ¬ bs.length ≤ n := by omega
        have hnl' : (n : Int) < (bs.length : Int) := by omega
        clear hpk' HAT ho h2 hp hK he he2 ho2 hg1 hg2 hg3 hg4 hown3 hown4 he3 h3 h4 he4 hy htf hlc hbv
        go_wp2_with fail
        generalize hw4 : (w2.setCell ⟨g, n, none⟩ (Value.int .u8 ((y.toNat ^^^ 1 : Nat) : Int))).setCell ⟨rt, p, none⟩ (.bool true) = w4 at *
        have HW4 := Lib.hid hw4
        clear hw4 hf3 hct3 hd3 hkc hkf hc2 hct hxo
        have h4 := H4.out
        obtain ⟨ad, cap, vs, hc, hrv, htt⟩ := h4.row HB.out
        have hc1 := h4.c1
        obtain ⟨_, ad', cap', hve, hnc, hcm, hnone, _⟩ := id hrv.1
        simp only [Value.slice.injEq] at hve
        obtain ⟨rfl, -, rfl⟩ := hve
        rw [HQ.out] at hc hrv htt hnc
        simp only [List.length_cons] at hc hrv htt hnc
        rw [HP.out] at hc
        rw [HKK.out] at hc1
        have hbt : BytesAt w4 (.slice (some ⟨g, 0, none⟩) bs.length cap7) (turnAt n bs) := by
          unfold turnAt
          rw [← HY.out]
          have := SliceAt.of_own HO4.out
          unfold BytesAt
          rw [List.length_set]
          exact this
        have HBT := Lib.hid hbt
        have HRV := Lib.hid hrv
        clear h4 hbt hrv htt
        refine' wp_region_ext 17 78 (by kernel_rfl) rfl (by kernel_rfl) Nope (fun w1 => w1.cell? ⟨r, 1, none⟩ = some (.slice (some ⟨rq, 0, none⟩) K K) ∧ w1.cell? ⟨rq, p, none⟩ = some (.slice ad (rest.length + 1) cap) ∧ RowsV w1 (.slice ad (rest.length + 1) cap) vs (bs :: rest) ∧ BytesAt w1 (.slice (some ⟨g, 0, none⟩) bs.length cap7) (turnAt n bs)) ?_ _ ?_ ?_
        · intro y hy
          exact ⟨hy.cell hc1 (fun h => h), hy.cell hc (fun h => h), ⟨HRV.out.1.extM hy (onMaps_nope _), fun i x r hx hr => (HRV.out.2 i x r hx hr).extM hy (onMaps_nope _)⟩, HBT.out.extM hy (onMaps_nope _)⟩
        rotate_left 1
        · skip
          iterate 6
            apply Walk.exact
            · rfl
            · rintro ev w1 ⟨ec, eg, ef⟩ hR ⟨hy1, hy2, -⟩
              go_simp
              intros
              go_simp
              exact ⟨Ext.refl _ _, rfl⟩
          apply Walk.fact (RowOfOne (turnAt n bs))
          · rfl
          · rintro v w1 w3 _ hx _ _ ⟨g', x, h1, h3, h5⟩
            exact ⟨g', x, h1, hx.heap h3 (fun h => h), h5.extM hx (onMaps_nope _)⟩
          · rintro ev w1 ⟨ec, eg, ef⟩ hR ⟨-, -, -, hbt⟩
            have HB1 := Lib.hid hbt
            clear hbt
            go_simp
            intros
            go_simp
            exact ⟨(Ext.refl _ _).alloc _, w1.heap.size, _, rfl, (MapKept.heap_alloc w1 _).1, HB1.out.extM ((Ext.refl Nope _).alloc _) (onMaps_nope _)⟩
          iterate 7
            apply Walk.exact
            · rfl
            · rintro ev w1 ⟨ec, eg, ef⟩ hR ⟨hy1, hy2, -⟩
              go_simp
              intros
              go_simp
              exact ⟨Ext.refl _ _, rfl⟩
          apply Walk.exact
          · rfl
          · rintro ev w1 ⟨ec, eg, ef⟩ hR -
            go_simp
            intros
            go_simp
            rw [if_pos (by omega)]
            exact ⟨Ext.refl _ _, rfl⟩
          apply Walk.fact (TheRows (turnAt n bs :: rest))
          · rfl
          · rintro v w1 w3 _ hx _ _ ⟨a, cp, h1, h3⟩
            exact ⟨a, cp, h1, h3.extH hx (onHard_nope _ _)⟩
          · rintro ev w1 ⟨ec, eg, ef⟩ hR ⟨_, _, hrow, -⟩
            simp only [sees, Known.find, Op.operands, Call.operands, List.toList_toArray, List.append_toArray, List.nil_append, List.append_nil, ↓reduceIte, Option.some.injEq, Nat.reduceEqDiff, Spec.holds]
            rintro ⟨⟨g', x, h33, hg, hbx⟩, h41, -⟩
            obtain ⟨ad2, cap2, w5, hrun, hrt, he5⟩ := app_one w1 g' x _ hg hbx (rows_tail hrow) (by omega)
            simp only [Does, execOp, resolve, invoke, builtin, h33, h41, Sem.run_bind, Sem.run_pure, Result.andThen_ok, List.map_toArray, List.map_cons, List.map_nil]
            first | rw [hrun] | simp only [hrun]
            exact ⟨he5, ad2, cap2, rfl, hrt⟩
          iterate 1
            apply Walk.exact
            · rfl
            · rintro ev w1 ⟨ec, eg, ef⟩ hR ⟨hy1, hy2, -⟩
              go_simp
              intros
              go_simp
              exact ⟨Ext.refl _ _, rfl⟩
          exact Walk.nil
        · rintro w6 he6 -
          have h6 := H4.out.ext he6
          simp only [Finish]
          rintro v42 ⟨ad2, cap2, rfl, hrt⟩ v33 -
          obtain ⟨hset, heset⟩ := h6.setRow HB.out hrt
          have hf1 := (h6.free p).1
          have hcp := he6.cell hc (fun h => h)
          rw [HP.out] at hset heset
          have HS := Lib.hid hset
          have HE6 := Lib.hid (HE4.out.trans ((he6.nope (M := RTwo rq rt)).trans (heset.mono (fun _ h => .inl h))))
          clear hset heset h6 hrt
          go_simp
          go_wp2
          all_goals
            go_ret
            exact ⟨rfl, HS.out, HE6.out⟩
end Go.Proofs.Ytjpkhediolahaaa
