/- Contract of Push. Conditions: the net is in memory as NetAt says, the arguments are ints, the batch has at most 100000 bytes. -/
import Derived.Test.YtjpkhediolahaaaQe
set_option linter.unusedVariables false
set_option linter.unusedSimpArgs false
set_option linter.unusedSectionVars false
set_option linter.unnecessarySimpa false
namespace Go.Proofs.Ytjpkhediolahaaa
open Go.RowKit Go.Mk Go.Maps

def upd {α : Type} (q : Way → α) (x : Way) (r : α) : Way → α := fun y => if y = x then r else q y
theorem upd_same {α : Type} (q : Way → α) (x : Way) (r : α) : upd q x r x = r := by simp [upd]
theorem upd_other {α : Type} (q : Way → α) {x y : Way} (r : α) (h : y ≠ x) : upd q x r y = q y := by simp [upd, h]

theorem NetAt.ltq {w b bq bt N q tn} (h : NetAt w b bq bt N q tn) : bq < w.heap.size := by
  obtain ⟨M, hm, _⟩ := h.qm
  exact hm.lt
theorem NetAt.ltt {w b bq bt N q tn} (h : NetAt w b bq bt N q tn) : bt < w.heap.size := by
  obtain ⟨M, hm, _⟩ := h.tm
  exact hm.lt
theorem NetAt.store {w w1 b bq bt N q tn} (h : NetAt w b bq bt N q tn) (he : Ext Nope w w1) (c f t : Int) (hx : wayOk (c, f, t)) (v : Value) (rows : List (List UInt8)) (hr : RowsT 29 w1 v rows) :
    ∃ w2, (Instr.mapUpdate 49 (.map (some bq)) (.agg #[.int .i64 c, .int .i64 f, .int .i64 t]) v).run Try.prog w1 = .ok () w2 ∧ NetAt w2 b bq bt N (upd q (c, f, t) rows) tn ∧ Ext (· = bq) w w2 ∧ Ext (· = bq) w1 w2 := by
  have h1 := h.ext he
  obtain ⟨M, hm, hv⟩ := h1.qm
  obtain ⟨w2, hrun, hm2, hone⟩ := hm.update way_enc (t := 49) (e := 22) Try.underlying49 (c, f, t) hx v
  have hmaps : OnMaps (· = bq) w1 := fun k hk => by subst hk; exact hm.map
  refine ⟨w2, hrun, ⟨?_, h1.ne, ⟨_, hm2, fun y hy => ?_⟩, h1.tm.ext hone.ext (fun e => h1.ne e.symm), h1.few⟩, he.nope.trans hone.ext, hone.ext⟩
  · have hne : b ≠ bq := fun e => by
      obtain ⟨es, cl, hb⟩ := hm.map
      have := h1.hdr
      rw [e, hb] at this
      cases this
    rw [hone.block b hne]
    exact h1.hdr
  · by_cases e : y = (c, f, t)
    · subst e
      rw [put_same, upd_same]
      exact hr.extH hone.ext hmaps.hard
    · rw [put_other _ _ e, upd_other _ _ e]
      exact (hv y hy).extH hone.ext hmaps.hard

def CodePost (w : World) (code : Int) (e : Ending) (w' : World) : Prop := e = .returned (.int .i64 code) ∧ Ext Nope w w'

set_option maxHeartbeats 400000 in
theorem push_none {w b bq bt N q tn} (h : NetAt w b bq bt N q tn) (c f t : Int) (v : Value) (hib : isB N (c, f, t) = false) :
   Calls Try.prog 9 #[.pointer (some ⟨b, 0, none⟩), .int .i64 c, .int .i64 f, .int .i64 t, v] w (CodePost w 1) := by
  have his := is_any b N c f t (w.alloc (.cells #[.int .i64 c, .int .i64 f, .int .i64 t] 53)) (by have := h.lt; simp; omega) (((Ext.refl Nope w).alloc _).cell h.c0 (fun h => h))
  have H := Lib.hid h
  clear h
  rw [hib] at his
  have HB := Lib.hid hib
  clear hib
  go_enter Try.func9, Try.ntmps9
  go_wp2_with (go_at_call 25; refine his.mono ?_; rintro e w' ⟨rfl, hext⟩)
  go_ret
  exact ⟨rfl, ((Ext.refl _ _).alloc _).trans hext⟩

set_option maxHeartbeats 400000 in
theorem push_full {w b bq bt N q tn} (h : NetAt w b bq bt N q tn) (c f t : Int) (v : Value) (hx : wayOk (c, f, t)) (hib : isB N (c, f, t) = true) (hq : 64 ≤ (q (c, f, t)).length) :
   Calls Try.prog 9 #[.pointer (some ⟨b, 0, none⟩), .int .i64 c, .int .i64 f, .int .i64 t, v] w (CodePost w 21) := by
  have hb0 := h.lt
  have his := is_any b N c f t (w.alloc (.cells #[.int .i64 c, .int .i64 f, .int .i64 t] 53)) (by have := h.lt; simp; omega) (((Ext.refl Nope w).alloc _).cell h.c0 (fun h => h))
  obtain ⟨ad, cap, vs, hlook⟩ := h.look c f t hx
  have hc1 := fun (w' : World) (he : Ext Nope w w') => (h.ext he).c1
  have H := Lib.hid h
  clear h
  rw [hib] at his
  have HB := Lib.hid hib
  clear hib
  have hlook1 := fun w' he => (hlook w' he).1
  clear hlook
  generalize hn : (q (c, f, t)).length = n at *
  have Hn := Lib.hid hn
  clear hn
  have h4 : decide ((64 : Int) ≤ (n : Int)) = true := by simp; omega
  go_enter Try.func9, Try.ntmps9
  go_wp2_with (go_at_call 25; refine his.mono ?_; rintro e w' ⟨rfl, hext⟩)
  have h0 : Ext Nope w w' := ((Ext.refl _ _).alloc _).trans hext
  have hrun := fun n => hlook1 (w'.drewN n) (h0.drewN n)
  have hcq := hc1 w' h0
  have hk0 : w'.cell? ⟨w.heap.size, 0, none⟩ = some (.int .i64 c) := hext.cell (by simp) (fun h => h)
  have hk1 : w'.cell? ⟨w.heap.size, 1, none⟩ = some (.int .i64 f) := hext.cell (by simp) (fun h => h)
  have hk2 : w'.cell? ⟨w.heap.size, 2, none⟩ = some (.int .i64 t) := hext.cell (by simp) (fun h => h)
  go_quiet (fail)
  go_wp2
  go_ret
  exact ⟨rfl, h0.drewN _⟩

theorem oneSlice {a n c} : ∀ u ∈ [Value.slice a n c], u.oneCell' = true := by
  intro u hu
  simp at hu
  subst hu
  rfl

theorem new_cell (w : World) (x : Value) (T : TypeId) : (w.alloc (.cells #[x] T)).cell? ⟨w.heap.size, 0, none⟩ = some x := by
  have := (MapKept.heap_alloc w (.cells #[x] T)).1
  simp only [World.cell?]
  rw [this]
  rfl
def OneRow (bs : List UInt8) (v : Value) (w1 : World) : Prop := ∃ r x, v = .slice (some ⟨r, 0, none⟩) 1 1 ∧ w1.cell? ⟨r, 0, none⟩ = some x ∧ x.oneCell' = true ∧ BytesAt w1 x bs
theorem cell_one_new' {w : World} {r : Nat} {x : Value} (h : w.cell? ⟨r, 0, none⟩ = some x) : ∀ (j : Nat) (u : Value), [x][j]? = some u → w.cell? ((⟨r, 0, none⟩ : Addr).add j) = some u := by
  intro j u hu
  have : j = 0 := by
    have := (List.getElem?_eq_some_iff.1 hu).1
    simp at this; omega
  subst this
  simp at hu
  subst hu
  exact h

def PushPost (w : World) (b bq bt : Nat) (N : Int) (q : Way → List (List UInt8)) (tn : Way → Int) (e : Ending) (w' : World) : Prop :=
  e = .returned (.int .i64 0) ∧ NetAt w' b bq bt N q tn ∧ Ext (· = bq) w w'

set_option maxHeartbeats 1000000 in
theorem push_yes {w b bq bt N q tn} (h : NetAt w b bq bt N q tn) (c f t : Int) (v : Value) (bs : List UInt8) (hx : wayOk (c, f, t)) (hib : isB N (c, f, t) = true) (hq : (q (c, f, t)).length < 64)
   (hv : BytesAt w v bs) (hbs : bs.length ≤ 100000) :
   Calls Try.prog 9 #[.pointer (some ⟨b, 0, none⟩), .int .i64 c, .int .i64 f, .int .i64 t, v] w (PushPost w b bq bt N (upd q (c, f, t) (q (c, f, t) ++ [bs])) tn) := by
  have hb0 := h.lt
  have his := is_any b N c f t (w.alloc (.cells #[.int .i64 c, .int .i64 f, .int .i64 t] 53)) (by have := h.lt; simp; omega) (((Ext.refl Nope w).alloc _).cell h.c0 (fun h => h))
  obtain ⟨ad, cap, vs, hlook⟩ := h.look c f t hx
  have hc1 := fun (w' : World) (he : Ext Nope w w') => (h.ext he).c1
  have H := Lib.hid h
  clear h
  rw [hib] at his
  have HB := Lib.hid hib
  clear hib
  have hlook1 := fun w' he => (hlook w' he).1
  have hlook2 := fun w' he => (hlook w' he).2
  clear hlook
  obtain ⟨⟨hvl, ad', cap', hve, hnc, hcm, hnone, hcells⟩, -⟩ := hlook2 w (Ext.refl _ _)
  cases hve
  clear hvl hnone hcells
  generalize hqq : q (c, f, t) = rows at *
  generalize hn : rows.length = n at *
  have Hn := Lib.hid hn
  have Hqq := Lib.hid hqq
  clear hn hqq
  have h4 : decide ((64 : Int) ≤ (n : Int)) = false := by simp; omega
  obtain ⟨i0, hi, hz0, hz1, hz2⟩ := info_parts info29
  go_enter Try.func9, Try.ntmps9
  go_wp2_with (go_at_call 25; refine his.mono ?_; rintro e w' ⟨rfl, hext⟩)
  have h0 : Ext Nope w w' := ((Ext.refl _ _).alloc _).trans hext
  have hrun := fun n => hlook1 (w'.drewN n) (h0.drewN n)
  have hcq := hc1 w' h0
  have hk0 : w'.cell? ⟨w.heap.size, 0, none⟩ = some (.int .i64 c) := hext.cell (by simp) (fun h => h)
  have hk1 : w'.cell? ⟨w.heap.size, 1, none⟩ = some (.int .i64 f) := hext.cell (by simp) (fun h => h)
  have hk2 : w'.cell? ⟨w.heap.size, 2, none⟩ = some (.int .i64 t) := hext.cell (by simp) (fun h => h)
  go_quiet (fail)
  go_wp2
  clear hrun
  refine' wp_region_ext 16 46 (by kernel_rfl) rfl (by kernel_rfl) Nope (fun w1 => w1.cell? ⟨b, 1, none⟩ = some (.map (some bq)) ∧ w1.cell? ⟨w.heap.size, 0, none⟩ = some (.int .i64 c) ∧ w1.cell? ⟨w.heap.size, 1, none⟩ = some (.int .i64 f) ∧ w1.cell? ⟨w.heap.size, 2, none⟩ = some (.int .i64 t) ∧ (Instr.lookup 49 (.map (some bq)) (.agg #[.int .i64 c, .int .i64 f, .int .i64 t]) false).run Try.prog w1 = .ok (.slice ad n cap) w1 ∧ Ext Nope w w1) ?_ _ ?_ ?_
  · intro y hy
    have hy' : Ext Nope w y := (h0.drewN nq).trans hy
    exact ⟨hc1 y hy', hy.cell (by simpa using hk0) (fun h => h), hy.cell (by simpa using hk1) (fun h => h), hy.cell (by simpa using hk2) (fun h => h), hlook1 y hy', hy'⟩
  rotate_left 1
  · iterate 11
      apply Walk.exact
      · rfl
      · rintro ev w1 ⟨ec, eg, ef⟩ hR hS
        go_simp
        intros
        go_simp
        exact ⟨Ext.refl _ _, rfl⟩
    -- slices.Clip
    apply Walk.exact
    · rfl
    · rintro ev w1 ⟨ec, eg, ef⟩ hR hS
      go_simp
      intros
      go_simp
      refine (clip26 ad n cap w1 hnc hcm).mono ?_
      rintro e w2 ⟨rfl, rfl⟩
      exact ⟨rfl, Ext.refl _ _⟩
    apply Walk.exact
    · rfl
    · rintro ev w1 ⟨ec, eg, ef⟩ hR hS
      go_simp
      intros
      go_simp
      exact ⟨Ext.refl _ _, rfl⟩
    -- slices.Clone
    apply Walk.fact (fun v w1 => w1.ownsRow w.heap.size 5 1 v bs.length (bs.map byteV))
    · rfl
    · intro v w1 w2 _ he _ _ ho
      exact ownsRow_ext ho he (fun _ h => h.elim)
    · rintro ev w1 ⟨ec, eg, ef⟩ hR ⟨_, _, _, _, _, hw1⟩
      go_simp
      intros
      go_simp
      refine (clone27 v bs.length (bs.map byteV) w1 (hv.extM hw1 (onMaps_nope w)) (byte_one bs) (by omega)).mono ?_
      rintro e w2 ⟨v, rfl, ho, he⟩
      exact ⟨v, rfl, he, ownsRow_base ho hw1.size⟩
    -- the one that is appended, in a row of its own
    apply Walk.fact (OneRow bs)
    · rfl
    · rintro v w1 w2 _ he _ _ ⟨r, x, h1, h2, h3, h4⟩
      exact ⟨r, x, h1, he.cell h2 (fun h => h), h3, h4.extM he (onMaps_nope w1)⟩
    · rintro ev w1 ⟨ec, eg, ef⟩ hR -
      simp only [sees, Known.find, Op.operands, List.toList_toArray, ↓reduceIte, Option.some.injEq, Nat.reduceEqDiff, Spec.holds, List.map_cons, List.map_nil]
      rintro ⟨ho, -⟩
      have hby : BytesAt w1 (ev (.tmp 43)) bs := SliceAt.of_own ho
      obtain ⟨_, a43, c43, he43, _⟩ := id hby
      rw [he43] at hby
      go_simp
      exact ⟨(Ext.refl _ _).alloc _, w1.heap.size, .slice a43 bs.length c43, rfl, new_cell _ _ _, rfl, hby.extM ((Ext.refl Nope _).alloc _) (onMaps_nope w1)⟩
    -- append
    apply Walk.fact (fun v w1 => RowsT 29 w1 v (rows ++ [bs]))
    · rfl
    · rintro v w1 w2 _ he _ _ hr
      exact hr.extH he (onHard_nope _ w1)
    · rintro ev w1 ⟨ec, eg, ef⟩ hR ⟨_, _, _, _, _, hw1⟩
      simp only [sees, Known.find, Op.operands, Call.operands, List.toList_toArray, List.append_toArray, List.nil_append, List.append_nil, ↓reduceIte, Option.some.injEq, Nat.reduceEqDiff, Spec.holds]
      rintro ⟨h41, ⟨r, x, h44, hx1, hx2, hx3⟩, -⟩
      obtain ⟨⟨hvl, ad1, cap1, hve1, hnc1, hcm1, hnone, hcells⟩, hrw⟩ := hlook2 w1 hw1
      simp only [Value.slice.injEq] at hve1
      obtain ⟨rfl, -, rfl⟩ := hve1
      have hsl : SliceAt w1 1 (.slice ad n n) n vs := ⟨by rw [hvl, Hn.out], ad, n, rfl, Nat.le_refl _, by omega, fun e => by have := hnone e; rw [Hn.out] at hnc1; omega, hcells⟩
      obtain ⟨v', w2, hrun, hown, he2⟩ := run_append_full (P := Try.prog) w1 22 22 29 i0 (.slice none 0 0) 1 24 Try.underlying22 hi hz0 hz1 hz2 rfl ad n vs hsl ⟨r, 0, none⟩ 1 1 [x] rfl (cell_one_new' hx1) (by omega) (by simp only [maxLen]; omega) (by omega)
      simp only [Does, execOp, resolve, invoke, builtin, h41, h44, Sem.run_bind, Sem.run_pure, Result.andThen_ok, List.map_toArray, List.map_cons, List.map_nil, hrun]
      refine ⟨he2, ⟨vs ++ [x], ?_, fun i y r hy hr => ?_⟩, TypedAt.of_own hown⟩
      · have := SliceAt.of_own hown
        simpa [Hn.out] using this
      · have hvn : vs.length = n := by rw [hvl, Hn.out]; omega
        by_cases hlt : i < n
        · rw [List.getElem?_append_left (by omega)] at hy
          rw [List.getElem?_append_left (by rw [Hn.out]; omega)] at hr
          exact (hrw i y r hy hr).extM he2 (onMaps_nope w1)
        · rw [List.getElem?_append_right (by omega)] at hy
          rw [List.getElem?_append_right (by rw [Hn.out]; omega)] at hr
          have : i - n = 0 := by
            have := (List.getElem?_eq_some_iff.1 hy).1
            simp at this; omega
          rw [hvn, this] at hy
          rw [Hn.out, this] at hr
          simp at hy hr
          subst hy; subst hr
          exact hx3.extM he2 (onMaps_nope w1)
    exact Walk.nil
  · rintro w2 he2 ⟨_, _, _, _, _, hw2⟩
    simp only [Finish]
    intro v45 h45 v44 _ v43 _
    obtain ⟨w3, hrun, hnet, hext3, -⟩ := H.out.store hw2 c f t hx v45 _ h45
    go_simp
    go_wp2
    go_ret
    exact ⟨rfl, hnet, hext3⟩

end Go.Proofs.Ytjpkhediolahaaa
