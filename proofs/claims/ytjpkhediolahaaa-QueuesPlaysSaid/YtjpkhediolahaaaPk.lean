/- Contract of the reference's Push. Conditions: the net is in memory as RefAt says, the arguments are ints, the batch is read as bytes. -/
import Derived.Test.YtjpkhediolahaaaPj
set_option linter.unusedVariables false
set_option linter.unusedSimpArgs false
set_option linter.unusedSectionVars false
set_option linter.unnecessarySimpa false
namespace Go.Proofs.Ytjpkhediolahaaa
open Go.RowKit Go.Mk Go.Maps

set_option maxHeartbeats 4000000 in
theorem rpush_any {w r rq rt N} {s : NS} (h : RefAt w r rq rt N s.q s.tn) (c f t : Int) (v : Value) (bs : List UInt8) (hv : BytesAt w v bs) (hb1 : bs.length ≤ 100000) (h64 : (s.q (c, f, t)).length ≤ 64) :
    Calls Try.prog 33 #[.pointer (some ⟨r, 0, none⟩), .int .i64 c, .int .i64 f, .int .i64 t, v] w (RCode w r rq rt N (pushM N s (c, f, t) bs)) := by
  have hat := at_any r N c f t w h.few h.c0
  unfold pushM
  cases hb : isB N (c, f, t)
  · have HB := Lib.hid hb
    have H := Lib.hid h
    clear h
    go_enter Try.func33, Try.ntmps33
    go_wp2_with fail
    refine hat.mono ?_
    rintro e w' ⟨rfl, he⟩
    rw [HB.out]
    go_wp2_with fail
    go_ret
    exact ⟨rfl, H.out.ext he, he.nope⟩
  · have H := Lib.hid h
    have HB := Lib.hid hb
    have HV := Lib.hid hv
    rw [if_pos rfl]
    by_cases hq : 64 ≤ (s.q (c, f, t)).length
    · rw [if_pos hq]
      have hq64 : (s.q (c, f, t)).length = 64 := by omega
      clear h hb hv hq h64
      go_enter Try.func33, Try.ntmps33
      go_wp2_with fail
      refine hat.mono ?_
      rintro e w' ⟨rfl, he⟩
      rw [HB.out, if_pos rfl]
      have h' := H.out.ext he
      obtain ⟨ad, cap, vs, hc, _, _⟩ := h'.row HB.out
      obtain ⟨hp1, hp2, hp3⟩ := h'.inside HB.out
      have hc1 := h'.c1
      have HE := Lib.hid he
      rw [hq64] at hc
      generalize place N (c, f, t) = p at *
      generalize places N = K at *
      have hk0 : ¬ (p : Int) < 0 := by omega
      have hkK : (p : Int) < (K : Int) := by omega
      clear h' he hat
      go_wp2_with fail
      go_ret
      exact ⟨rfl, H.out.ext HE.out, HE.out.nope⟩
    · rw [if_neg hq]
      have hlen : (s.q (c, f, t)).length < 64 := by omega
      generalize hrows : s.q (c, f, t) = rows at *
      have HQ := Lib.hid hrows
      clear h hb hv hq h64 hrows
      go_enter Try.func33, Try.ntmps33
      go_wp2_with fail
      refine hat.mono ?_
      rintro e w' ⟨rfl, he⟩
      rw [HB.out, if_pos rfl]
      have h' := H.out.ext he
      obtain ⟨ad, cap, vs, hc, hrv, _⟩ := h'.row HB.out
      obtain ⟨hp1, hp2, hp3⟩ := h'.inside HB.out
      have hc1 := h'.c1
      rw [HQ.out] at hc hrv
      have H2 := Lib.hid h'
      have HRV := Lib.hid hrv
      have HE := Lib.hid he
      have HV2 := Lib.hid (HV.out.extM he (onMaps_nope _))
      generalize hp : place N (c, f, t) = p at *
      generalize hK : places N = K at *
      have HP := Lib.hid hp
      have hk0 : ¬ (p : Int) < 0 := by omega
      have hkK : (p : Int) < (K : Int) := by omega
      have hl64 : ¬ (64 : Int) ≤ (rows.length : Int) := by omega
      clear hat h' he hrv hp hK
      go_wp2_with fail
      refine' wp_region_steps 19 48 (by kernel_rfl) rfl (by kernel_rfl) (Ext (fun k => w'.heap.size ≤ k)) (PQ w'.heap.size rows.length) (fun w1 => w1.cell? ⟨r, 1, none⟩ = some (.slice (some ⟨rq, 0, none⟩) K K) ∧ w1.cell? ⟨rq, p, none⟩ = some (.slice ad rows.length cap) ∧ SliceAt w1 1 (.slice ad rows.length cap) rows.length vs ∧ BytesAt w1 v bs ∧ w'.heap.size ≤ w1.heap.size) (fun _ _ => True) (fun h k => h.trans k) (fun h => h.1.ext) ?_ ?_ trivial ?_ _ ?_ ?_
      · exact (Ext.refl _ _).drew
      · exact ⟨hc1, hc, HRV.out.1, HV2.out, Nat.le_refl _⟩
      · intro x y hx hxy _
        have hy : Ext Nope w' y := ⟨(hx.trans hxy).os, (hx.trans hxy).tape, (hx.trans hxy).output, (hx.trans hxy).size, fun k hk _ => (hx.trans hxy).block k hk (by omega)⟩
        exact ⟨hy.cell hc1 (fun h => h), hy.cell hc (fun h => h), HRV.out.1.extM hy (onMaps_nope _), HV2.out.extM hy (onMaps_nope _), hy.size⟩
      rotate_left 1
      · iterate 5
          apply Walk3.exact
          · rfl
          · rintro d ev w1 ⟨ec, eg, ef⟩ hR ⟨hy1, hy2, -⟩ - - -
            go_simp
            intros
            go_simp
            exact ⟨PQ.of (Ext.refl _ _), rfl⟩
        apply Walk3.fact (NewRow w'.heap.size 29)
        · rfl
        · rintro i v1 w1 w3 - _ hx _ _ hh
          exact hh.step hx.1
        · rintro d ev w1 ⟨ec, eg, ef⟩ hR ⟨_, _, _, _, hsz⟩ - - -
          have HSZ := Lib.hid hsz
          clear hsz
          go_simp
          intros
          go_simp
          exact ⟨PQ.of ((Ext.refl _ _).alloc _), w1.heap.size, HSZ.out, rfl, (MapKept.heap_alloc w1 _).1⟩
        iterate 7
          apply Walk3.exact
          · rfl
          · rintro d ev w1 ⟨ec, eg, ef⟩ hR ⟨hy1, hy2, -⟩ - - -
            go_simp
            intros
            go_simp
            exact ⟨PQ.of (Ext.refl _ _), rfl⟩
        apply Walk3.fact (OwnRow w'.heap.size 29 rows.length vs)
        · rfl
        · rintro i v1 w1 w3 - _ hx _ _ hh
          exact hh.step29 hx.1
        · rintro d ev w1 ⟨ec, eg, ef⟩ hR ⟨_, _, hsl, _, hsz⟩ - - -
          simp only [sees, Known.find, Op.operands, Call.operands, List.toList_toArray, List.append_toArray, List.nil_append, List.append_nil, ↓reduceIte, Option.some.injEq, Nat.reduceEqDiff, Spec.holds]
          rintro ⟨h33, h40, -⟩
          rw [← h40] at hsl
          obtain ⟨v1, w4, hrun, ho, he4⟩ := app_copy Try.underlying22 info29 rfl (by omega) (fun w g a c => app_none22 w g a 0 c 0 (Nat.le_refl _)) hsz h33 hsl (by omega)
          simp only [Does, execOp, resolve, invoke, builtin, Sem.run_bind, Sem.run_pure, Result.andThen_ok, List.map_toArray, List.map_cons, List.map_nil]
          first | rw [hrun] | simp only [hrun]
          exact ⟨PQ.of he4, trivial, ho⟩
        apply Walk3.fact (NewRow w'.heap.size 5)
        · rfl
        · rintro i v1 w1 w3 - _ hx _ _ hh
          exact hh.step hx.1
        · rintro d ev w1 ⟨ec, eg, ef⟩ hR ⟨_, _, _, _, hsz⟩ - - -
          have HSZ := Lib.hid hsz
          clear hsz
          go_simp
          intros
          go_simp
          exact ⟨PQ.of ((Ext.refl _ _).alloc _), w1.heap.size, HSZ.out, rfl, (MapKept.heap_alloc w1 _).1⟩
        apply Walk3.exact
        · rfl
        · rintro d ev w1 ⟨ec, eg, ef⟩ hR - - - -
          go_simp
          intros
          go_simp
          exact ⟨PQ.of (Ext.refl _ _), rfl⟩
        apply Walk3.fact (OwnRow w'.heap.size 5 bs.length (bs.map byteV))
        · rfl
        · rintro i v1 w1 w3 - _ hx _ _ hh
          exact hh.step5 hx.1
        · rintro d ev w1 ⟨ec, eg, ef⟩ hR ⟨_, _, _, hsl, hsz⟩ - - -
          simp only [sees, Known.find, Op.operands, Call.operands, List.toList_toArray, List.append_toArray, List.nil_append, List.append_nil, ↓reduceIte, Option.some.injEq, Nat.reduceEqDiff, Spec.holds]
          rintro ⟨h33, h40, -⟩
          try simp only [putT] at h40
          rw [← h40] at hsl
          obtain ⟨v1, w4, hrun, ho, he4⟩ := app_copy Try.underlying29 info5 rfl (by omega) (fun w g a c => app_none w g a c) hsz h33 hsl (by omega)
          simp only [Does, execOp, resolve, invoke, builtin, Sem.run_bind, Sem.run_pure, Result.andThen_ok, List.map_toArray, List.map_cons, List.map_nil]
          first | rw [hrun] | simp only [hrun]
          exact ⟨PQ.of he4, trivial, ho⟩
        apply Walk3.fact (RowB1 w'.heap.size bs)
        · rfl
        · rintro i v1 w1 w3 - _ hx _ _ hh
          exact hh.step hx.1
        · rintro d ev w1 ⟨ec, eg, ef⟩ hR ⟨_, _, _, _, hsz⟩ - - -
          have HSZ := Lib.hid hsz
          clear hsz
          go_simp
          rintro ⟨g5, c5, h5, ho5, hc5⟩
          have HO := Lib.hid (show OwnRow w'.heap.size 5 bs.length (bs.map byteV) (ev (.tmp 44)) w1 from ⟨g5, c5, h5, ho5, hc5⟩)
          clear ho5 hc5
          go_simp
          refine ⟨PQ.of ((Ext.refl _ _).alloc _), w1.heap.size, _, HSZ.out, rfl, (MapKept.heap_alloc w1 _).1, ?_⟩
          rw [← h5]
          exact HO.out.ext ((Ext.refl _ _).alloc _)
        apply Walk3.fact (RowMore w'.heap.size rows.length vs bs)
        · rfl
        · rintro i v1 w1 w3 hi _ hx _ _ hh
          exact hh.ext (hx.2 hi)
        · rintro d ev w1 ⟨ec, eg, ef⟩ hR ⟨_, _, _, _, hsz⟩ - - -
          simp only [sees, Known.find, Op.operands, Call.operands, List.toList_toArray, List.append_toArray, List.nil_append, List.append_nil, ↓reduceIte, Option.some.injEq, Nat.reduceEqDiff, Spec.holds]
          rintro ⟨h41, h45, -⟩
          obtain ⟨v1, w4, hrun, ho, he4⟩ := app_more hsz h41 h45 (by omega)
          simp only [Does, execOp, resolve, invoke, builtin, Sem.run_bind, Sem.run_pure, Result.andThen_ok, List.map_toArray, List.map_cons, List.map_nil]
          first | rw [hrun] | simp only [hrun]
          exact ⟨⟨he4, fun h => absurd rfl h⟩, trivial, ho⟩
        exact Walk3.nil
      · rintro d w3 he3 - - -
        have hx3 : Ext Nope w' w3 := ⟨he3.os, he3.tape, he3.output, he3.size, fun k hk _ => he3.block k hk (by omega)⟩
        simp only [Finish]
        rintro v46 h46 v45 - v44 - v42 - v41 - v33 -
        obtain ⟨ad2, cap2, hv46, hrt⟩ := h46.rows (vs := vs) (rows := rows) (v0 := .slice ad rows.length cap) ⟨HRV.out.1.extM hx3 (onMaps_nope _), fun i x r hx hr => (HRV.out.2 i x r hx hr).extM hx3 (onMaps_nope _)⟩
        subst hv46
        have h3 := H2.out.ext hx3
        obtain ⟨hset, heset⟩ := h3.setRow HB.out hrt
        have hf1 := (h3.free p).1
        have hcp := hx3.cell hc (fun h => h)
        rw [HP.out] at hset heset
        rw [show (rows ++ [bs]).length = rows.length + 1 by simp] at hset heset
        have HS := Lib.hid hset
        have HE3 := Lib.hid (((HE.out.trans hx3).nope (M := RTwo rq rt)).trans (heset.mono (fun _ h => .inl h)))
        clear hset heset h3 hrt h46 he3
        go_simp
        go_wp2
        all_goals
          go_ret
          exact ⟨rfl, HS.out, HE3.out⟩
end Go.Proofs.Ytjpkhediolahaaa
