/- Contract of Pop. Conditions: the net is in memory as NetAt says, the arguments are ints, a queue has at most 64 batches, of at most 100000 bytes. -/
import Derived.Test.YtjpkhediolahaaaQf
set_option linter.unusedVariables false
set_option linter.unusedSimpArgs false
set_option linter.unusedSectionVars false
set_option linter.unnecessarySimpa false
namespace Go.Proofs.Ytjpkhediolahaaa
open Go.RowKit Go.Mk Go.Maps

set_option maxHeartbeats 400000 in
theorem pop_none {w b bq bt N q tn} (h : NetAt w b bq bt N q tn) (c f t : Int) (hib : isB N (c, f, t) = false) :
   Calls Try.prog 11 #[.pointer (some ⟨b, 0, none⟩), .int .i64 c, .int .i64 f, .int .i64 t] w (PeekNo w 1) := by
  have hpk := peek_none h c f t 0 hib
  clear h hib
  go_enter Try.func11, Try.ntmps11
  go_wp2_with (go_at_call 17; refine hpk.mono ?_; rintro e w' ⟨rfl, hext⟩)
  go_ret2
  exact ⟨rfl, hext⟩

set_option maxHeartbeats 400000 in
theorem pop_out {w b bq bt N q tn} (h : NetAt w b bq bt N q tn) (c f t : Int) (hx : wayOk (c, f, t)) (hib : isB N (c, f, t) = true) (h0 : q (c, f, t) = []) :
   Calls Try.prog 11 #[.pointer (some ⟨b, 0, none⟩), .int .i64 c, .int .i64 f, .int .i64 t] w (PeekNo w 27) := by
  have hpk := peek_out h c f t 0 hx hib (by right; simp [h0])
  clear h hib h0
  go_enter Try.func11, Try.ntmps11
  go_wp2_with (go_at_call 17; refine hpk.mono ?_; rintro e w' ⟨rfl, hext⟩)
  go_ret2
  exact ⟨rfl, hext⟩

theorem NetAt.storeT {w w1 b bq bt N q tn} (h : NetAt w b bq bt N q tn) (he : Ext Nope w w1) (c f t : Int) (hx : wayOk (c, f, t)) (n : Int) :
    ∃ w2, (Instr.mapUpdate 50 (.map (some bt)) (.agg #[.int .i64 c, .int .i64 f, .int .i64 t]) (.int .i64 n)).run Try.prog w1 = .ok () w2 ∧ NetAt w2 b bq bt N q (upd tn (c, f, t) n) ∧ Ext (· = bt) w w2 := by
  have h1 := h.ext he
  obtain ⟨M, hm, hv⟩ := h1.tm
  obtain ⟨w2, hrun, hm2, hone⟩ := hm.update way_enc (t := 50) (e := 3) Try.underlying50 (c, f, t) hx (.int .i64 n)
  have hmaps : OnMaps (· = bt) w1 := fun k hk => by subst hk; exact hm.map
  refine ⟨w2, hrun, ⟨?_, h1.ne, h1.qm.ext hone.ext hmaps h1.ne, ⟨_, hm2, fun y hy => ?_⟩, h1.few⟩, he.nope.trans hone.ext⟩
  · have hne : b ≠ bt := fun e => by
      obtain ⟨es, cl, hb⟩ := hm.map
      have := h1.hdr
      rw [e, hb] at this
      cases this
    rw [hone.block b hne]
    exact h1.hdr
  · by_cases e : y = (c, f, t)
    · subst e
      rw [put_same, upd_same]
      rfl
    · rw [put_other _ _ e, upd_other _ _ e]
      exact hv y hy

theorem rows_tail {w : World} {ad : Option Addr} {cap : Nat} {vs : List Value} {bs : List UInt8} {rest : List (List UInt8)} (h : RowsV w (.slice ad (rest.length + 1) cap) vs (bs :: rest)) :
    RowsAt w (.slice (if cap = 1 then ad else Option.map (fun x => { block := x.block, off := x.off + 1 }) ad) rest.length (cap - 1)) rest := by
  obtain ⟨⟨hl, a, c, he, h1, h2, h3, h4⟩, hr⟩ := h
  simp only [List.length_cons, Value.slice.injEq] at he hl h1
  obtain ⟨rfl, -, rfl⟩ := he
  refine ⟨vs.tail, ⟨by simp; omega, _, _, rfl, by omega, by omega, ?_, ?_⟩, ?_⟩
  · intro e
    by_cases hc : cap = 1
    · omega
    · rw [if_neg hc] at e
      have := h3 (by simpa using e)
      omega
  · intro ad' e j u hu
    by_cases hc : cap = 1
    · have : rest.length = 0 := by omega
      have hv : vs.tail = [] := List.eq_nil_of_length_eq_zero (by simp; omega)
      rw [hv] at hu
      simp at hu
    · rw [if_neg hc] at e
      cases ad with
      | none => simp at e
      | some a0 =>
        simp at e
        subst e
        have := h4 a0 rfl (j + 1) u (by simpa using hu)
        rw [show a0.add (j + 1) = (⟨a0.block, a0.off + 1, none⟩ : Addr).add j from ?_] at this
        · exact this
        · unfold Addr.add
          by_cases hj : j = 0
          · simp [hj]
          · simp [hj, Nat.add_assoc, Nat.add_comm 1 j]
  · intro i x r hx hr'
    exact hr (i + 1) x r (by simpa using hx) (by simpa using hr')

def PopPost (w : World) (b bq bt : Nat) (N : Int) (bs : List UInt8) (q : Way → List (List UInt8)) (tn : Way → Int) (e : Ending) (w' : World) : Prop :=
  ∃ v, e = .returned (.tuple #[v, .int .i64 0]) ∧ w'.ownsRow w.heap.size 5 1 v bs.length (bs.map byteV) ∧ NetAt w' b bq bt N q tn ∧ Ext (fun k => k = bq ∨ k = bt) w w'

set_option maxHeartbeats 1000000 in
theorem pop_yes {w b bq bt N q tn} (h : NetAt w b bq bt N q tn) (c f t : Int) (bs : List UInt8) (rest : List (List UInt8)) (hx : wayOk (c, f, t)) (hib : isB N (c, f, t) = true) (hq : q (c, f, t) = bs :: rest) (hlen : (q (c, f, t)).length ≤ 64) (hbs : bs.length ≤ 100000) :
   Calls Try.prog 11 #[.pointer (some ⟨b, 0, none⟩), .int .i64 c, .int .i64 f, .int .i64 t] w (PopPost w b bq bt N bs (upd q (c, f, t) rest) (upd tn (c, f, t) 0)) := by
  have hb0 := h.lt
  have hltq := h.ltq
  have hltt := h.ltt
  have hpk := peek_yes h c f t 0 bs hx hlen hib (by rw [hq]; rfl) hbs
  obtain ⟨ad, cap, vs, hlook⟩ := h.look c f t hx
  have hc1 := fun (w' : World) (he : Ext Nope w w') => (h.ext he).c1
  have H := Lib.hid h
  clear h
  have HB := Lib.hid hib
  clear hib
  have hlook1 := fun w' he => (hlook w' he).1
  have hlook2 := fun w' he => (hlook w' he).2
  clear hlook
  generalize hqq : q (c, f, t) = rows at *
  obtain ⟨⟨hvl, ad', cap', hve, hnc, hcm, hnone, hcells⟩, hrw⟩ := hlook2 w (Ext.refl _ _)
  have hl1 : rows.length = rest.length + 1 := by rw [hq]; rfl
  generalize hn : rows.length = n at *
  have Hn := Lib.hid hn
  have Hq := Lib.hid hq
  clear hn hq
  have Hqq := Lib.hid hqq
  clear hqq
  obtain ⟨m, rfl⟩ : ∃ m, n = m + 1 := ⟨rest.length, hl1⟩
  have Hl1 := Lib.hid hl1
  clear hl1
  simp only [Value.slice.injEq] at hve
  obtain ⟨rfl, -, rfl⟩ := hve
  go_enter Try.func11, Try.ntmps11
  go_wp2_with (go_at_call 17; refine hpk.mono ?_; rintro e w' ⟨v, rfl, hown, hext⟩)
  have h0 : Ext Nope w (w'.alloc (.cells #[.int .i64 c, .int .i64 f, .int .i64 t] 53)) := hext.alloc _
  have hsz := hext.size
  refine' wp_region_ext 12 46 (by kernel_rfl) rfl (by kernel_rfl) Nope (fun w1 => w1.cell? ⟨b, 1, none⟩ = some (.map (some bq)) ∧ w1.cell? ⟨w'.heap.size, 0, none⟩ = some (.int .i64 c) ∧ w1.cell? ⟨w'.heap.size, 1, none⟩ = some (.int .i64 f) ∧ w1.cell? ⟨w'.heap.size, 2, none⟩ = some (.int .i64 t) ∧ (Instr.lookup 49 (.map (some bq)) (.agg #[.int .i64 c, .int .i64 f, .int .i64 t]) false).run Try.prog w1 = .ok (.slice ad (m + 1) cap) w1 ∧ Ext Nope w w1) ?_ _ ?_ ?_
  · intro y hy
    have hy' : Ext Nope w y := h0.trans hy
    exact ⟨hc1 y hy', hy.cell (by simp) (fun h => h), hy.cell (by simp) (fun h => h), hy.cell (by simp) (fun h => h), hlook1 y hy', hy'⟩
  rotate_left 1
  · iterate 11
      apply Walk.exact
      · rfl
      · rintro ev w1 ⟨ec, eg, ef⟩ hR hS
        go_simp
        intros
        go_simp
        exact ⟨Ext.refl _ _, rfl⟩
    apply Walk.exact
    · rfl
    · rintro ev w1 ⟨ec, eg, ef⟩ hR hS
      go_simp
      intros
      go_simp
      rw [if_pos (by omega)]
      exact ⟨Ext.refl _ _, rfl⟩
    exact Walk.nil
  · rintro w2 he2 ⟨_, hk0, hk1, hk2, _, hw2⟩
    simp only [Finish]
    have hrt : RowsAt w2 (.slice (if cap = 1 then ad else Option.map (fun x => { block := x.block, off := x.off + 1 }) ad) m (cap - 1)) rest := by
      have hm : m = rest.length := by have := Hl1.out; omega
      have h2 := hlook2 w2 hw2
      rw [Hq.out] at h2
      subst hm
      exact rows_tail h2
    have htt : TypedAt w2 29 (.slice (if cap = 1 then ad else Option.map (fun x => { block := x.block, off := x.off + 1 }) ad) m (cap - 1)) := by
      intro a1 n1 c1 hv1
      have ht := H.out.typed c f t hx hw2 (hlook1 w2 hw2)
      simp only [Value.slice.injEq] at hv1
      obtain ⟨e1, -, -⟩ := hv1
      cases ad with
      | none => split at e1 <;> simp at e1
      | some a0 =>
        obtain ⟨cc, fr, hcc⟩ := ht a0 _ _ rfl
        have : a1.block = a0.block := by
          split at e1
          · simp only [Option.some.injEq] at e1; rw [e1]
          · simp only [Option.map_some, Option.some.injEq] at e1; rw [← e1]
        rw [this]
        exact ⟨cc, fr, hcc⟩
    generalize Value.slice (if cap = 1 then ad else Option.map (fun x => { block := x.block, off := x.off + 1 }) ad) m (cap - 1) = vv at hrt htt ⊢
    obtain ⟨w3, hrun, hnet, hext3, hone⟩ := H.out.store hw2 c f t hx _ _ ⟨hrt, htt⟩
    have hown2 := ownsRow_ext (ownsRow_ext hown (((Ext.refl Nope w').alloc _).trans he2) (fun _ h => h.elim)) hone (fun k hk => by rw [hk]; exact hltq)
    have hnq : w'.heap.size ≠ bq := by omega
    have hk0' := hone.cell hk0 hnq
    have hk1' := hone.cell hk1 hnq
    have hk2' := hone.cell hk2 hnq
    have Hnet := Lib.hid hnet
    have hc2 := hnet.c2
    clear hnet hk0 hk1 hk2 hnq hrt
    go_simp
    go_wp2
    refine' wp_region_ext 5 46 (by kernel_rfl) rfl (by kernel_rfl) Nope (fun w1 => w1.cell? ⟨b, 2, none⟩ = some (.map (some bt)) ∧ w1.cell? ⟨w'.heap.size, 0, none⟩ = some (.int .i64 c) ∧ w1.cell? ⟨w'.heap.size, 1, none⟩ = some (.int .i64 f) ∧ w1.cell? ⟨w'.heap.size, 2, none⟩ = some (.int .i64 t)) ?_ _ ?_ ?_
    · intro y hy
      exact ⟨hy.cell hc2 (fun h => h), hy.cell hk0' (fun h => h), hy.cell hk1' (fun h => h), hy.cell hk2' (fun h => h)⟩
    rotate_left 1
    · iterate 5
        apply Walk.exact
        · rfl
        · rintro ev w1 ⟨ec, eg, ef⟩ hR hS
          go_simp
          intros
          go_simp
          exact ⟨Ext.refl _ _, rfl⟩
      exact Walk.nil
    · rintro w4 he4 -
      simp only [Finish]
      obtain ⟨w5, hrun5, hnet5, hext5⟩ := Hnet.out.storeT he4 c f t hx 0
      go_simp
      go_wp2
      go_ret2
      exact ⟨v, rfl, ownsRow_ext hown2 hext5 (fun k hk => by rw [hk]; exact hltt), hnet5, (hext3.mono (fun _ h => .inl h)).trans (hext5.mono (fun _ h => .inr h))⟩

end Go.Proofs.Ytjpkhediolahaaa
