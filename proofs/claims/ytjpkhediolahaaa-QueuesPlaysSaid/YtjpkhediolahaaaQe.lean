/- Contract of Peek. Conditions: the net is in memory as NetAt says, the arguments are ints, a queue has at most 64 batches, of at most 100000 bytes. -/
import Derived.Test.YtjpkhediolahaaaQd
set_option linter.unusedVariables false
set_option linter.unusedSimpArgs false
set_option linter.unusedSectionVars false
set_option linter.unnecessarySimpa false
namespace Go.Proofs.Ytjpkhediolahaaa
open Go.RowKit Go.Mk Go.Maps

def PeekPost (w : World) (bs : List UInt8) (e : Ending) (w' : World) : Prop :=
  ∃ v, e = .returned (.tuple #[v, .int .i64 0]) ∧ w'.ownsRow w.heap.size 5 1 v bs.length (bs.map byteV) ∧ Ext Nope w w'

theorem byte_one (bs : List UInt8) : ∀ u ∈ bs.map byteV, u.oneCell' = true := by
  intro u hu
  obtain ⟨_, _, rfl⟩ := List.mem_map.1 hu
  rfl

set_option maxHeartbeats 1000000 in
theorem peek_yes {w b bq bt N q tn} (h : NetAt w b bq bt N q tn) (c f t : Int) (k : Nat) (bs : List UInt8) (hx : wayOk (c, f, t)) (hq : (q (c, f, t)).length ≤ 64)
   (hib : isB N (c, f, t) = true) (h2 : (q (c, f, t))[k]? = some bs) (hbs : bs.length ≤ 100000) :
   Calls Try.prog 17 #[.pointer (some ⟨b, 0, none⟩), .int .i64 c, .int .i64 f, .int .i64 t, .int .i64 k] w (PeekPost w bs) := by
  have hb0 := h.lt
  have his := is_any b N c f t (w.alloc (.cells #[.int .i64 c, .int .i64 f, .int .i64 t] 53)) (by have := h.lt; simp; omega) (((Ext.refl Nope w).alloc _).cell h.c0 (fun h => h))
  obtain ⟨ad, cap, vs, hlook⟩ := h.look c f t hx
  have hc1 := fun (w' : World) (he : Ext Nope w w') => (h.ext he).c1
  have H := Lib.hid h
  clear h
  rw [hib] at his
  have HB := Lib.hid hib
  clear hib
  have hkn : k < (q (c, f, t)).length := (List.getElem?_eq_some_iff.1 h2).1
  obtain ⟨⟨hvl, ad', cap', hve, hnc, hcm, hnone, hcells⟩, hrows⟩ := (hlook w (Ext.refl _ _)).2
  cases hve
  obtain ⟨a0, rfl⟩ : ∃ a0, ad = some a0 := by
    cases ad with
    | none => have := hnone rfl; omega
    | some a0 => exact ⟨a0, rfl⟩
  have hkv : k < vs.length := by omega
  have hvk : vs[k]? = some vs[k] := by simp [hkv]
  have hbytes := fun w' he => (hlook w' he).2.2 k vs[k] bs hvk h2
  have hcell : ∀ w', Ext Nope w w' → w'.cell? (a0.add k) = some vs[k] := fun w' he => he.cell (hcells a0 rfl k _ hvk) (fun h => h)
  have hlook1 := fun w' he => (hlook w' he).1
  clear hlook hcells hrows hnone hvk
  have Hvl := Lib.hid hvl
  clear hvl
  have H2 := Lib.hid h2
  clear h2
  generalize hn : (q (c, f, t)).length = n at *
  have Hn := Lib.hid hn
  clear hn
  generalize hvx : vs[k] = x at *
  clear hvx
  have hd : decide ((k : Int) < 0) = false := by simp
  go_enter Try.func17, Try.ntmps17
  go_wp2_with (go_at_call 25; refine his.mono ?_; rintro e w' ⟨rfl, hext⟩)
  have h0 : Ext Nope w w' := ((Ext.refl _ _).alloc _).trans hext
  have hrun := fun n => hlook1 (w'.drewN n) (h0.drewN n)
  have hcq := hc1 w' h0
  have hk0 : w'.cell? ⟨w.heap.size, 0, none⟩ = some (.int .i64 c) := hext.cell (by simp) (fun h => h)
  have hk1 : w'.cell? ⟨w.heap.size, 1, none⟩ = some (.int .i64 f) := hext.cell (by simp) (fun h => h)
  have hk2 : w'.cell? ⟨w.heap.size, 2, none⟩ = some (.int .i64 t) := hext.cell (by simp) (fun h => h)
  have hlt : decide ((n : Int) ≤ (k : Int)) = false := by simpa using hkn
  have hlt' : decide (n ≤ k) = false := by simpa using hkn
  go_quiet (fail)
  go_wp2
  clear hrun
  refine' wp_region_ext 12 46 (by kernel_rfl) rfl (by kernel_rfl) Nope (fun w1 => w1.cell? ⟨b, 1, none⟩ = some (.map (some bq)) ∧ w1.cell? ⟨w.heap.size, 0, none⟩ = some (.int .i64 c) ∧ w1.cell? ⟨w.heap.size, 1, none⟩ = some (.int .i64 f) ∧ w1.cell? ⟨w.heap.size, 2, none⟩ = some (.int .i64 t) ∧ (Instr.lookup 49 (.map (some bq)) (.agg #[.int .i64 c, .int .i64 f, .int .i64 t]) false).run Try.prog w1 = .ok (.slice (some a0) n cap) w1 ∧ w1.cell? (a0.add k) = some x ∧ BytesAt w1 x bs ∧ w.heap.size ≤ w1.heap.size) ?_ _ ?_ ?_
  · intro y hy
    have hy' : Ext Nope w y := (h0.drewN nq).trans hy
    exact ⟨hc1 y hy', hy.cell (by simpa using hk0) (fun h => h), hy.cell (by simpa using hk1) (fun h => h), hy.cell (by simpa using hk2) (fun h => h), hlook1 y hy', hcell y hy', hbytes y hy', hy'.size⟩
  rotate_left 1
  · iterate 9
      apply Walk.exact
      · rfl
      · rintro ev w1 ⟨ec, eg, ef⟩ hR hS
        go_simp
        intros
        go_simp
        exact ⟨Ext.refl _ _, rfl⟩
    apply Walk.fact (fun v w1 => w1.ownsRow w.heap.size 5 1 v bs.length (bs.map byteV))
    · rfl
    · intro v w1 w2 _ he _ _ ho
      exact ownsRow_ext ho he (fun _ h => h.elim)
    · rintro ev w1 ⟨ec, eg, ef⟩ hR ⟨_, _, _, _, _, _, hby, hsz⟩
      go_simp
      intros
      go_simp
      refine (clone27 x bs.length (bs.map byteV) w1 hby (byte_one bs) (by omega)).mono ?_
      rintro e w2 ⟨v, rfl, ho, he⟩
      exact ⟨v, rfl, he, ownsRow_base ho hsz⟩
    apply Walk.fact (fun v w1 => w1.ownsRow w.heap.size 5 1 v bs.length (bs.map byteV))
    · rfl
    · intro v w1 w2 _ he _ _ ho
      exact ownsRow_ext ho he (fun _ h => h.elim)
    · rintro ev w1 ⟨ec, eg, ef⟩ hR -
      simp only [sees, Known.find, Op.operands, List.toList_toArray, ↓reduceIte, Option.some.injEq, Nat.reduceEqDiff, Spec.holds]
      rintro ⟨hs, -⟩
      simp only [Does, execOp]
      exact ⟨Ext.refl _ _, hs⟩
    apply Walk.exact
    · rfl
    · rintro ev w1 ⟨ec, eg, ef⟩ hR hS
      go_simp
      exact ⟨Ext.refl _ _, rfl⟩
    exact Walk.nil
  · rintro w2 he2 -
    simp only [Finish]
    intro v hv v' hv'
    go_simp
    go_wp2
    go_ret2
    exact ⟨v, rfl, hv, (h0.drewN nq).trans he2⟩

def PeekNo (w : World) (code : Int) (e : Ending) (w' : World) : Prop :=
  e = .returned (.tuple #[.slice none 0 0, .int .i64 code]) ∧ Ext Nope w w'

set_option maxHeartbeats 400000 in
theorem peek_none {w b bq bt N q tn} (h : NetAt w b bq bt N q tn) (c f t k : Int) (hib : isB N (c, f, t) = false) :
   Calls Try.prog 17 #[.pointer (some ⟨b, 0, none⟩), .int .i64 c, .int .i64 f, .int .i64 t, .int .i64 k] w (PeekNo w 1) := by
  have his := is_any b N c f t (w.alloc (.cells #[.int .i64 c, .int .i64 f, .int .i64 t] 53)) (by have := h.lt; simp; omega) (((Ext.refl Nope w).alloc _).cell h.c0 (fun h => h))
  have H := Lib.hid h
  clear h
  rw [hib] at his
  have HB := Lib.hid hib
  clear hib
  go_enter Try.func17, Try.ntmps17
  go_wp2_with (go_at_call 25; refine his.mono ?_; rintro e w' ⟨rfl, hext⟩)
  go_ret2
  exact ⟨rfl, ((Ext.refl _ _).alloc _).trans hext⟩

set_option maxHeartbeats 1000000 in
theorem peek_out {w b bq bt N q tn} (h : NetAt w b bq bt N q tn) (c f t k : Int) (hx : wayOk (c, f, t))
   (hib : isB N (c, f, t) = true) (h2 : k < 0 ∨ (q (c, f, t)).length ≤ k) :
   Calls Try.prog 17 #[.pointer (some ⟨b, 0, none⟩), .int .i64 c, .int .i64 f, .int .i64 t, .int .i64 k] w (PeekNo w 27) := by
  have hb0 := h.lt
  have his := is_any b N c f t (w.alloc (.cells #[.int .i64 c, .int .i64 f, .int .i64 t] 53)) (by have := h.lt; simp; omega) (((Ext.refl Nope w).alloc _).cell h.c0 (fun h => h))
  obtain ⟨ad, cap, vs, hlook⟩ := h.look c f t hx
  have hc1 := fun (w' : World) (he : Ext Nope w w') => (h.ext he).c1
  have H := Lib.hid h
  clear h
  rw [hib] at his
  have HB := Lib.hid hib
  clear hib
  have hlook1 := fun w' he => (hlook w' he).1
  clear hlook
  generalize hn : (q (c, f, t)).length = n at *
  have Hn := Lib.hid hn
  clear hn
  by_cases hd0 : k < 0
  · have hd : decide (k < 0) = true := by simpa using hd0
    clear h2
    go_enter Try.func17, Try.ntmps17
    go_wp2_with (go_at_call 25; refine his.mono ?_; rintro e w' ⟨rfl, hext⟩)
    go_quiet (fail)
    go_wp2
    go_ret2
    exact ⟨rfl, (((Ext.refl _ _).alloc _).trans hext).drewN _⟩
  · have hd : decide (k < 0) = false := by simpa using hd0
    have h3 : (n : Int) ≤ k := by omega
    have h4 : decide ((n : Int) ≤ k) = true := by simpa using h3
    clear h2
    go_enter Try.func17, Try.ntmps17
    go_wp2_with (go_at_call 25; refine his.mono ?_; rintro e w' ⟨rfl, hext⟩)
    have h0 : Ext Nope w w' := ((Ext.refl _ _).alloc _).trans hext
    have hrun := fun n => hlook1 (w'.drewN n) (h0.drewN n)
    have hcq := hc1 w' h0
    have hk0 : w'.cell? ⟨w.heap.size, 0, none⟩ = some (.int .i64 c) := hext.cell (by simp) (fun h => h)
    have hk1 : w'.cell? ⟨w.heap.size, 1, none⟩ = some (.int .i64 f) := hext.cell (by simp) (fun h => h)
    have hk2 : w'.cell? ⟨w.heap.size, 2, none⟩ = some (.int .i64 t) := hext.cell (by simp) (fun h => h)
    go_quiet (fail)
    go_wp2
    go_ret2
    exact ⟨rfl, h0.drewN _⟩

end Go.Proofs.Ytjpkhediolahaaa
