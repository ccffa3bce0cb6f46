/- Push of the net, where memory that the caller made meanwhile may be changed afterwards. Conditions: the net is in memory as NetAt says, the arguments are ints, the batch is read as bytes. -/
import Derived.Test.YtjpkhediolahaaaPl
set_option linter.unusedVariables false
set_option linter.unusedSimpArgs false
set_option linter.unusedSectionVars false
set_option linter.unnecessarySimpa false
namespace Go.Proofs.Ytjpkhediolahaaa
open Go.RowKit Go.Mk Go.Maps

/-- Memory made between two times, and one block. -/
def Scr (lo hi bq : Nat) : Nat → Prop := fun k => (lo ≤ k ∧ k < hi) ∨ k = bq
/-- Rows that none of it holds. -/
def RowsFar (lo hi bq : Nat) (w : World) (v : Value) (rows : List (List UInt8)) : Prop := ∀ w', Ext (Scr lo hi bq) w w' → RowsT 29 w' v rows
def OneFar (B : Nat) (bs : List UInt8) (v : Value) (w : World) : Prop :=
  ∃ r x, v = .slice (some ⟨r, 0, none⟩) 1 1 ∧ w.cell? ⟨r, 0, none⟩ = some x ∧ x.oneCell' = true ∧ w.ownsRow B 5 1 x bs.length (bs.map byteV)
def PushFar (w0 w : World) (b bq bt : Nat) (N : Int) (q : Way → List (List UInt8)) (tn : Way → Int) (e : Ending) (w' : World) : Prop :=
  e = .returned (.int .i64 0) ∧ (∀ w2, Ext (fun k => w0.heap.size ≤ k ∧ k < w.heap.size) w' w2 → NetAt w2 b bq bt N q tn) ∧ Ext (· = bq) w w'

theorem NetAt.storeFar {w0 w1 : World} {hi b bq bt N q tn} (h : NetAt w0 b bq bt N q tn) (he : Ext Nope w0 w1) (c f t : Int) (hx : wayOk (c, f, t)) (v : Value) (rows : List (List UInt8)) (hr : RowsFar w0.heap.size hi bq w1 v rows) :
    ∃ w2, (Instr.mapUpdate 49 (.map (some bq)) (.agg #[.int .i64 c, .int .i64 f, .int .i64 t]) v).run Try.prog w1 = .ok () w2 ∧ (∀ w3, Ext (fun k => w0.heap.size ≤ k ∧ k < hi) w2 w3 → NetAt w3 b bq bt N (upd q (c, f, t) rows) tn) ∧ Ext (· = bq) w0 w2 ∧ Ext (· = bq) w1 w2 := by
  have h1 := h.ext he
  obtain ⟨M, hm, hv⟩ := h.qm
  obtain ⟨w2, hrun, hm2, hone⟩ := (hm.ext he (fun h => h)).update way_enc (t := 49) (e := 22) Try.underlying49 (c, f, t) hx v
  have hmaps : OnMaps (· = bq) w0 := fun k hk => by subst hk; exact hm.map
  refine ⟨w2, hrun, fun w3 he3 => ?_, he.nope.trans hone.ext, hone.ext⟩
  have h03 : Ext (· = bq) w0 w3 := (he.nope.trans hone.ext).trans' he3 (fun k hk => .inr hk.1)
  have hne : b ≠ bq := fun e => by
    obtain ⟨es, cl, hb⟩ := hm.map
    have := h.hdr
    rw [e, hb] at this
    cases this
  refine ⟨h03.heap h.hdr hne, h.ne, ⟨_, hm2.ext he3 (fun hk => by have := h.ltq; omega), fun y hy => ?_⟩, h.tm.ext h03 (fun e => h.ne e.symm), h.few⟩
  by_cases e : y = (c, f, t)
  · subst e
    rw [put_same, upd_same]
    exact hr w3 ((hone.ext.mono (fun k hk => .inr hk)).trans (he3.mono (fun k hk => .inl hk)))
  · rw [put_other _ _ e, upd_other _ _ e]
    exact (hv y hy).extH h03 hmaps.hard

set_option maxHeartbeats 1000000 in
theorem push_far {w0 w b bq bt N q tn} (hw0 : NetAt w0 b bq bt N q tn) (hwe : Ext Nope w0 w) (c f t : Int) (v : Value) (bs : List UInt8) (hx : wayOk (c, f, t)) (hib : isB N (c, f, t) = true) (hq : (q (c, f, t)).length < 64)
   (hv : BytesAt w v bs) (hbs : bs.length ≤ 100000) :
   Calls Try.prog 9 #[.pointer (some ⟨b, 0, none⟩), .int .i64 c, .int .i64 f, .int .i64 t, v] w (PushFar w0 w b bq bt N (upd q (c, f, t) (q (c, f, t) ++ [bs])) tn) := by
  have h := hw0.ext hwe
  have hb0 := h.lt
  have his := is_any b N c f t (w.alloc (.cells #[.int .i64 c, .int .i64 f, .int .i64 t] 53)) (by have := h.lt; simp; omega) (((Ext.refl Nope w).alloc _).cell h.c0 (fun h => h))
  obtain ⟨ad, cap, vs, hlook0⟩ := hw0.look c f t hx
  have hlook := fun w' (he : Ext Nope w w') => hlook0 w' (hwe.trans he)
  have HL0 := Lib.hid (hlook0 w0 (Ext.refl _ _)).2
  have HMP := Lib.hid (show OnMaps (· = bq) w0 from fun k hk => by subst hk; obtain ⟨_, hm, _⟩ := hw0.qm; exact hm.map)
  have HBQ := Lib.hid hw0.ltq
  have HWE := Lib.hid hwe
  have HW0 := Lib.hid hw0
  clear hlook0 hw0 hwe
  have hc1 := fun (w' : World) (he : Ext Nope w w') => (h.ext he).c1
  have H := Lib.hid h
  clear h
  rw [hib] at his
  have HB := Lib.hid hib
  clear hib
  have hlook1 := fun w' he => (hlook w' he).1
  have hlook2 := fun w' he => (hlook w' he).2
  clear hlook
  obtain ⟨⟨hvl, ad', cap', hve, hnc, hcm, hnone, hcells⟩, -⟩ := hlook2 w (Ext.refl _ _)
  cases hve
  clear hvl hnone hcells
  generalize hqq : q (c, f, t) = rows at *
  generalize hn : rows.length = n at *
  have Hn := Lib.hid hn
  have Hqq := Lib.hid hqq
  clear hn hqq
  have h4 : decide ((64 : Int) ≤ (n : Int)) = false := by simp; omega
  obtain ⟨i0, hi, hz0, hz1, hz2⟩ := info_parts info29
  go_enter Try.func9, Try.ntmps9
  go_wp2_with (go_at_call 25; refine his.mono ?_; rintro e w' ⟨rfl, hext⟩)
  have h0 : Ext Nope w w' := ((Ext.refl _ _).alloc _).trans hext
  have hrun := fun n => hlook1 (w'.drewN n) (h0.drewN n)
  have hcq := hc1 w' h0
  have hk0 : w'.cell? ⟨w.heap.size, 0, none⟩ = some (.int .i64 c) := hext.cell (by simp) (fun h => h)
  have hk1 : w'.cell? ⟨w.heap.size, 1, none⟩ = some (.int .i64 f) := hext.cell (by simp) (fun h => h)
  have hk2 : w'.cell? ⟨w.heap.size, 2, none⟩ = some (.int .i64 t) := hext.cell (by simp) (fun h => h)
  go_quiet (fail)
  go_wp2
  clear hrun
  refine' wp_region_ext 16 46 (by kernel_rfl) rfl (by kernel_rfl) Nope (fun w1 => w1.cell? ⟨b, 1, none⟩ = some (.map (some bq)) ∧ w1.cell? ⟨w.heap.size, 0, none⟩ = some (.int .i64 c) ∧ w1.cell? ⟨w.heap.size, 1, none⟩ = some (.int .i64 f) ∧ w1.cell? ⟨w.heap.size, 2, none⟩ = some (.int .i64 t) ∧ (Instr.lookup 49 (.map (some bq)) (.agg #[.int .i64 c, .int .i64 f, .int .i64 t]) false).run Try.prog w1 = .ok (.slice ad n cap) w1 ∧ Ext Nope w w1) ?_ _ ?_ ?_
  · intro y hy
    have hy' : Ext Nope w y := (h0.drewN nq).trans hy
    exact ⟨hc1 y hy', hy.cell (by simpa using hk0) (fun h => h), hy.cell (by simpa using hk1) (fun h => h), hy.cell (by simpa using hk2) (fun h => h), hlook1 y hy', hy'⟩
  rotate_left 1
  · iterate 11
      apply Walk.exact
      · rfl
      · rintro ev w1 ⟨ec, eg, ef⟩ hR hS
        go_simp
        intros
        go_simp
        exact ⟨Ext.refl _ _, rfl⟩
    -- slices.Clip
    apply Walk.exact
    · rfl
    · rintro ev w1 ⟨ec, eg, ef⟩ hR hS
      go_simp
      intros
      go_simp
      refine (clip26 ad n cap w1 hnc hcm).mono ?_
      rintro e w2 ⟨rfl, rfl⟩
      exact ⟨rfl, Ext.refl _ _⟩
    apply Walk.exact
    · rfl
    · rintro ev w1 ⟨ec, eg, ef⟩ hR hS
      go_simp
      intros
      go_simp
      exact ⟨Ext.refl _ _, rfl⟩
    -- slices.Clone
    apply Walk.fact (fun v w1 => w1.ownsRow w.heap.size 5 1 v bs.length (bs.map byteV))
    · rfl
    · intro v w1 w2 _ he _ _ ho
      exact ownsRow_ext ho he (fun _ h => h.elim)
    · rintro ev w1 ⟨ec, eg, ef⟩ hR ⟨_, _, _, _, _, hw1⟩
      go_simp
      intros
      go_simp
      refine (clone27 v bs.length (bs.map byteV) w1 (hv.extM hw1 (onMaps_nope w)) (byte_one bs) (by omega)).mono ?_
      rintro e w2 ⟨v, rfl, ho, he⟩
      exact ⟨v, rfl, he, ownsRow_base ho hw1.size⟩
    -- the one that is appended, in a row of its own
    apply Walk.fact (OneFar w.heap.size bs)
    · rfl
    · rintro v w1 w2 _ he _ _ ⟨r, x, h1, h2, h3, h4⟩
      exact ⟨r, x, h1, he.cell h2 (fun h => h), h3, ownsRow_ext h4 he (fun _ h => h.elim)⟩
    · rintro ev w1 ⟨ec, eg, ef⟩ hR -
      simp only [sees, Known.find, Op.operands, List.toList_toArray, ↓reduceIte, Option.some.injEq, Nat.reduceEqDiff, Spec.holds, List.map_cons, List.map_nil]
      rintro ⟨ho, -⟩
      have hby : BytesAt w1 (ev (.tmp 43)) bs := SliceAt.of_own ho
      obtain ⟨_, a43, c43, he43, _⟩ := id hby
      rw [he43] at hby ho
      have HOO := Lib.hid ho
      clear ho
      go_simp
      exact ⟨(Ext.refl _ _).alloc _, w1.heap.size, .slice a43 bs.length c43, rfl, new_cell _ _ _, rfl, ownsRow_ext HOO.out ((Ext.refl Nope _).alloc _) (fun _ h => h.elim)⟩
    -- append
    apply Walk.fact (fun v w1 => RowsFar w0.heap.size w.heap.size bq w1 v (rows ++ [bs]))
    · rfl
    · rintro v w1 w2 _ he _ _ hr
      exact fun w3 he3 => hr w3 (he.nope.trans he3)
    · rintro ev w1 ⟨ec, eg, ef⟩ hR ⟨_, _, _, _, _, hw1⟩
      simp only [sees, Known.find, Op.operands, Call.operands, List.toList_toArray, List.append_toArray, List.nil_append, List.append_nil, ↓reduceIte, Option.some.injEq, Nat.reduceEqDiff, Spec.holds]
      rintro ⟨h41, ⟨r, x, h44, hx1, hx2, hx3⟩, -⟩
      obtain ⟨⟨hvl, ad1, cap1, hve1, hnc1, hcm1, hnone, hcells⟩, hrw⟩ := hlook2 w1 hw1
      simp only [Value.slice.injEq] at hve1
      obtain ⟨rfl, -, rfl⟩ := hve1
      have hsl : SliceAt w1 1 (.slice ad n n) n vs := ⟨by rw [hvl, Hn.out], ad, n, rfl, Nat.le_refl _, by omega, fun e => by have := hnone e; rw [Hn.out] at hnc1; omega, hcells⟩
      obtain ⟨v', w2, hrun, hown, he2⟩ := run_append_full (P := Try.prog) w1 22 22 29 i0 (.slice none 0 0) 1 24 Try.underlying22 hi hz0 hz1 hz2 rfl ad n vs hsl ⟨r, 0, none⟩ 1 1 [x] rfl (cell_one_new' hx1) (by omega) (by simp only [maxLen]; omega) (by omega)
      simp only [Does, execOp, resolve, invoke, builtin, h41, h44, Sem.run_bind, Sem.run_pure, Result.andThen_ok, List.map_toArray, List.map_cons, List.map_nil, hrun]
      refine ⟨he2, fun w3 he3 => ?_⟩
      have hsz1 : w.heap.size ≤ w1.heap.size := hw1.size
      have hbq := HBQ.out
      have hsz0 := HWE.out.size
      have hown3 := ownsRow_ext (ownsRow_base hown hsz1) he3 (fun k hk => by rcases hk with hk | rfl <;> omega)
      have hx4 := ownsRow_ext (ownsRow_ext hx3 he2 (fun _ h => h.elim)) he3 (fun k hk => by rcases hk with hk | rfl <;> omega)
      have h03 : Ext (· = bq) w0 w3 := by
        have e1 : Ext Nope w0 w2 := (HWE.out.trans hw1).trans he2
        exact (e1.nope (M := (· = bq))).trans' he3 (fun k hk => by rcases hk with hk | rfl; exact .inr hk.1; exact .inl rfl)
      have hrw0 := HL0.out.2
      refine ⟨⟨vs ++ [x], ?_, fun i y r hy hr => ?_⟩, TypedAt.of_own hown3⟩
      · have := SliceAt.of_own hown3
        simpa [Hn.out] using this
      · have hvn : vs.length = n := by rw [hvl, Hn.out]; omega
        by_cases hlt : i < n
        · rw [List.getElem?_append_left (by omega)] at hy
          rw [List.getElem?_append_left (by rw [Hn.out]; omega)] at hr
          exact (hrw0 i y r hy hr).extM h03 HMP.out
        · rw [List.getElem?_append_right (by omega)] at hy
          rw [List.getElem?_append_right (by rw [Hn.out]; omega)] at hr
          have : i - n = 0 := by
            have := (List.getElem?_eq_some_iff.1 hy).1
            simp at this; omega
          rw [hvn, this] at hy
          rw [Hn.out, this] at hr
          simp at hy hr
          subst hy; subst hr
          exact SliceAt.of_own hx4
    exact Walk.nil
  · rintro w2 he2 ⟨_, _, _, _, _, hw2⟩
    simp only [Finish]
    intro v45 h45 v44 _ v43 _
    obtain ⟨w3, hrun, hnet, hext0, hext2⟩ := HW0.out.storeFar (hi := w.heap.size) (HWE.out.trans hw2) c f t hx v45 _ h45
    have hext3 : Ext (· = bq) w w3 := hw2.nope.trans hext2
    go_simp
    go_wp2
    go_ret
    exact ⟨rfl, hnet, hext3⟩

end Go.Proofs.Ytjpkhediolahaaa
