/- Contracts of Len, Room, Peek. Conditions: the net is in memory as NetAt says, the arguments are ints. -/
import Derived.Test.YtjpkhediolahaaaQc
set_option linter.unusedVariables false
set_option linter.unusedSimpArgs false
set_option linter.unusedSectionVars false
set_option linter.unnecessarySimpa false
namespace Go.Proofs.Ytjpkhediolahaaa
open Go.RowKit Go.Mk Go.Maps

theorem QMap.ext {M : Nat → Prop} {w w' : World} {bq : Nat} {q} (h : QMap w bq q) (he : Ext M w w') (hM : OnMaps M w) (hn : ¬ M bq) : QMap w' bq q := by
  obtain ⟨m, h1, h2⟩ := h
  exact ⟨m, h1.ext he hn, fun x hx => (h2 x hx).extH he hM.hard⟩
theorem QMap.extH {M : Nat → Prop} {w w' : World} {bq : Nat} {q} (h : QMap w bq q) (he : Ext M w w') (hM : OnHard 29 M w) (hn : ¬ M bq) : QMap w' bq q := by
  obtain ⟨m, h1, h2⟩ := h
  exact ⟨m, h1.ext he hn, fun x hx => (h2 x hx).extH he hM⟩
theorem TMap.ext {M : Nat → Prop} {w w' : World} {bt : Nat} {tn} (h : TMap w bt tn) (he : Ext M w w') (hn : ¬ M bt) : TMap w' bt tn := by
  obtain ⟨m, h1, h2⟩ := h
  exact ⟨m, h1.ext he hn, h2⟩
theorem NetAt.ext {w w' b bq bt N q tn} (h : NetAt w b bq bt N q tn) (he : Ext Nope w w') : NetAt w' b bq bt N q tn :=
  ⟨he.heap h.hdr (fun h => h), h.ne, h.qm.ext he (onMaps_nope w) (fun h => h), h.tm.ext he (fun h => h), h.few⟩

theorem NetAt.look {w b bq bt N q tn} (h : NetAt w b bq bt N q tn) (c f t : Int) (hx : wayOk (c, f, t)) :
    ∃ ad cap vs, ∀ w', Ext Nope w w' → (Instr.lookup 49 (.map (some bq)) (.agg #[.int .i64 c, .int .i64 f, .int .i64 t]) false).run Try.prog w' = .ok (.slice ad (q (c, f, t)).length cap) w' ∧ RowsV w' (.slice ad (q (c, f, t)).length cap) vs (q (c, f, t)) := by
  obtain ⟨m, h1, h2⟩ := h.qm
  have hv := (h2 _ hx).1
  obtain ⟨vs, ⟨hl, ad, cap, he, hs⟩, hb⟩ := id hv
  refine ⟨ad, cap, vs, fun w' hext => ?_⟩
  have hr := (h1.ext hext (fun h => h)).lookup way_enc (t := 49) (e := 22) Try.underlying49 (zero22 w') (c, f, t) hx false
  rw [← he]
  exact ⟨hr, SliceAt.extM ⟨hl, ad, cap, he, hs⟩ hext (onMaps_nope w), fun i x r hi hr => (hb i x r hi hr).extM hext (onMaps_nope w)⟩
theorem NetAt.typed {w b bq bt N q tn} (h : NetAt w b bq bt N q tn) (c f t : Int) (hx : wayOk (c, f, t)) {w' : World} (hext : Ext Nope w w') {v : Value}
    (hv : (Instr.lookup 49 (.map (some bq)) (.agg #[.int .i64 c, .int .i64 f, .int .i64 t]) false).run Try.prog w' = .ok v w') : TypedAt w' 29 v := by
  obtain ⟨m, h1, h2⟩ := h.qm
  have hr := (h1.ext hext (fun h => h)).lookup way_enc (t := 49) (e := 22) Try.underlying49 (zero22 w') (c, f, t) hx false
  have e := hr.symm.trans hv
  simp only [Result.ok.injEq, and_true, Bool.false_eq_true, if_false] at e
  rw [← e]
  exact ((h2 _ hx).2).extH hext (onHard_nope _ _)
theorem NetAt.lookT {w b bq bt N q tn} (h : NetAt w b bq bt N q tn) (c f t : Int) (hx : wayOk (c, f, t)) :
    (Instr.lookup 50 (.map (some bt)) (.agg #[.int .i64 c, .int .i64 f, .int .i64 t]) false).run Try.prog w = .ok (.int .i64 (tn (c, f, t))) w := by
  obtain ⟨m, h1, h2⟩ := h.tm
  have hr := h1.lookup way_enc (t := 50) (e := 3) Try.underlying50 (zero3 w) (c, f, t) hx false
  rw [h2 _ hx] at hr
  exact hr

set_option maxHeartbeats 400000 in
theorem len_any {w b bq bt N q tn} (h : NetAt w b bq bt N q tn) (c f t : Int) (hx : wayOk (c, f, t)) :
   Calls Try.prog 12 #[.pointer (some ⟨b, 0, none⟩), .int .i64 c, .int .i64 f, .int .i64 t] w fun e w' => e = .returned (.int .i64 (q (c, f, t)).length) ∧ w = w' := by
  obtain ⟨ad, cap, vs, hrun'⟩ := h.look c f t hx
  have hrun := (hrun' w (Ext.refl _ _)).1
  clear hrun'
  have hq := h.c1
  clear h
  go_enter Try.func12, Try.ntmps12
  go_wp2
  go_ret
  exact ⟨rfl, rfl⟩

def roomB (N : Int) (q : Way → List (List UInt8)) (x : Way) (many : Int) : Bool := isB N x && (decide (0 ≤ many) && decide (many ≤ 64 - (q x).length))

set_option maxHeartbeats 400000 in
theorem room_any {w b bq bt N q tn} (h : NetAt w b bq bt N q tn) (c f t many : Int) (hx : wayOk (c, f, t)) (hq : (q (c, f, t)).length ≤ 64) :
   Calls Try.prog 14 #[.pointer (some ⟨b, 0, none⟩), .int .i64 c, .int .i64 f, .int .i64 t, .int .i64 many] w fun e w' => e = .returned (.bool (roomB N q (c, f, t) many)) ∧ Ext Nope w w' := by
  have his := is_any b N c f t w h.lt h.c0
  have hlen := fun (w' : World) (he : Ext Nope w w') => len_any (h.ext he) c f t hx
  generalize hz : (q (c, f, t)).length = k at *
  have H := Lib.hid h
  clear h
  cases hb : isB N (c, f, t)
  · rw [hb] at his
    have HB := Lib.hid hb
    clear hb
    go_enter Try.func14, Try.ntmps14
    go_wp2_with (go_at_call 25; refine his.mono ?_; rintro e w' ⟨rfl, hext⟩)
    go_ret
    exact ⟨by simp [roomB, HB.out], hext⟩
  · rw [hb] at his
    have HB := Lib.hid hb
    clear hb
    by_cases hm : 0 ≤ many
    · go_enter Try.func14, Try.ntmps14
      go_wp2_with (first | (go_at_call 25; refine his.mono ?_; rintro e w' ⟨rfl, hext⟩) | (go_at_call 12; refine (hlen _ hext).mono ?_; rintro e w' ⟨rfl, rfl⟩))
      go_ret
      exact ⟨by simp [roomB, HB.out, hm, hz], hext⟩
    · go_enter Try.func14, Try.ntmps14
      go_wp2_with (first | (go_at_call 25; refine his.mono ?_; rintro e w' ⟨rfl, hext⟩) | (go_at_call 12; refine (hlen _ hext).mono ?_; rintro e w' ⟨rfl, rfl⟩))
      go_ret
      exact ⟨by simp [roomB, HB.out]; intros; omega, hext⟩

end Go.Proofs.Ytjpkhediolahaaa
