/- Contract of the net's Clone. Conditions: the net is in memory as NetAt says. -/
import Derived.Test.YtjpkhediolahaaaPk
import Derived.Shelf.SlMaps.Clone
set_option linter.unusedVariables false
set_option linter.unusedSimpArgs false
set_option linter.unusedSectionVars false
set_option linter.unnecessarySimpa false
namespace Go.Proofs.Ytjpkhediolahaaa
open Go.RowKit Go.Mk Go.Maps

set_option maxHeartbeats 2000000 in
theorem clone_rows (b : Nat) (es : Array MapEntry) (clock : Nat) (w : World) (hb : w.heap[b]? = some (.map es clock)) :
    Calls Try.prog 29 #[.map (some b)] w fun e w' => e = .returned (.map (some w.heap.size)) ∧ w' = w.alloc (.map es clock) := by
  have hq := fun w => run_eql_map_nil_sl (P := Try.prog) w 49 _ _ (some b) Try.underlying49
  go_enter Try.func29, Try.ntmps29
  go_wp2_with fail
  rw [run_callFunc_extern Try.func35 (by kernel_rfl) (by kernel_rfl) (by kernel_rfl) (e := Extern.MapsClone.clone) (by kernel_rfl), run_maps_clone_sl w 49 hb]
  simp only [Result.andThen]
  rw [Oper.upon_value]
  go_wp2_with fail
  rw [run_typeAssert_map_sl _ 49 20 _ _ _ Try.underlying49]
  simp only [Result.andThen]
  rw [Oper.upon_value]
  go_wp2_with fail
  go_ret
  exact ⟨rfl, rfl⟩

set_option maxHeartbeats 2000000 in
theorem clone_turns (b : Nat) (es : Array MapEntry) (clock : Nat) (w : World) (hb : w.heap[b]? = some (.map es clock)) :
    Calls Try.prog 30 #[.map (some b)] w fun e w' => e = .returned (.map (some w.heap.size)) ∧ w' = w.alloc (.map es clock) := by
  have hq := fun w => run_eql_map_nil_sl (P := Try.prog) w 50 _ _ (some b) Try.underlying50
  go_enter Try.func30, Try.ntmps30
  go_wp2_with fail
  rw [run_callFunc_extern Try.func35 (by kernel_rfl) (by kernel_rfl) (by kernel_rfl) (e := Extern.MapsClone.clone) (by kernel_rfl), run_maps_clone_sl w 50 hb]
  simp only [Result.andThen]
  rw [Oper.upon_value]
  go_wp2_with fail
  rw [run_typeAssert_map_sl _ 50 20 _ _ _ Try.underlying50]
  simp only [Result.andThen]
  rw [Oper.upon_value]
  go_wp2_with fail
  go_ret
  exact ⟨rfl, rfl⟩

theorem MapAt.copy {κ : Type} {P : Program} {kt : TypeId} {enc : κ → Value} {ok : κ → Prop} {w : World} {b : Nat} {M : κ → Option Value} (h : MapAt P kt enc ok w b M) :
    ∃ es clock, w.heap[b]? = some (.map es clock) ∧ MapAt P kt enc ok (w.alloc (.map es clock)) w.heap.size M := by
  obtain ⟨es, clock, hb, hr⟩ := h
  exact ⟨es, clock, hb, es, clock, (MapKept.heap_alloc w _).1, hr⟩

theorem cloneq_any {w : World} {bq : Nat} {q : Way → List (List UInt8)} (h : QMap w bq q) : Calls Try.prog 29 #[.map (some bq)] w fun e w' => e = .returned (.map (some w.heap.size)) ∧ QMap w' w.heap.size q ∧ Ext Nope w w' ∧ w'.heap.size = w.heap.size + 1 := by
  obtain ⟨m, h1, h2⟩ := h
  obtain ⟨es, clock, hb, hc⟩ := MapAt.copy h1
  refine (clone_rows bq es clock w hb).mono ?_
  rintro e w' ⟨rfl, rfl⟩
  have he : Ext Nope w (w.alloc (.map es clock)) := (Ext.refl _ _).alloc _
  exact ⟨rfl, ⟨m, hc, fun x hx => (h2 x hx).extH he (onHard_nope _ _)⟩, he, by simp⟩
theorem clonet_any {w : World} {bt : Nat} {tn : Way → Int} (h : TMap w bt tn) : Calls Try.prog 30 #[.map (some bt)] w fun e w' => e = .returned (.map (some w.heap.size)) ∧ TMap w' w.heap.size tn ∧ Ext Nope w w' ∧ w'.heap.size = w.heap.size + 1 := by
  obtain ⟨m, h1, h2⟩ := h
  obtain ⟨es, clock, hb, hc⟩ := MapAt.copy h1
  refine (clone_turns bt es clock w hb).mono ?_
  rintro e w' ⟨rfl, rfl⟩
  have he : Ext Nope w (w.alloc (.map es clock)) := (Ext.refl _ _).alloc _
  exact ⟨rfl, ⟨m, hc, h2⟩, he, by simp⟩

/-- How far Clone has come. -/
def StC (B : Nat) (d : Nat → Bool) (w : World) : Prop := (d 8 = false → w.heap.size = B ∧ d 13 = false) ∧ (d 8 = true → d 13 = false → w.heap.size = B + 1) ∧ (d 14 = true → d 13 = true)
theorem StC.step {B : Nat} {d : Nat → Bool} {w : World} (h : StC B d w) {i : Nat} (h1 : i ≠ 8) (h2 : i ≠ 13) (h3 : i ≠ 14) : StC B (dset d i) w := by
  unfold StC
  rw [dset_other d h1.symm, dset_other d h2.symm, dset_other d h3.symm]
  exact h
def CloneM (w : World) (N : Int) (q : Way → List (List UInt8)) (tn : Way → Int) (e : Ending) (w' : World) : Prop :=
  ∃ b bq bt, e = .returned (.pointer (some ⟨b, 0, none⟩)) ∧ NetAt w' b bq bt N q tn ∧ w.heap.size ≤ b ∧ w.heap.size ≤ bq ∧ w.heap.size ≤ bt ∧ Ext Nope w w'

set_option maxHeartbeats 2000000 in
theorem clone_any {w : World} {b bq bt : Nat} {N : Int} {q : Way → List (List UInt8)} {tn : Way → Int} (h : NetAt w b bq bt N q tn) : Calls Try.prog 19 #[.pointer (some ⟨b, 0, none⟩)] w (CloneM w N q tn) := by
  have H := Lib.hid h
  clear h
  go_enter Try.func19, Try.ntmps19
  go_wp2_with fail
  refine' wp_region_steps 16 19 (by kernel_rfl) rfl (by kernel_rfl) (Ext Nope) (fun _ => Ext Nope) (fun w1 => Hid (NetAt w1 b bq bt N q tn)) (StC w.heap.size) (fun h k => h.trans k) (fun h => h) ?_ ?_ ?_ ?_ _ ?_ ?_
  · exact (Ext.refl _ _).drew
  · exact Lib.hid (H.out.ext (Ext.refl _ _).drew)
  · exact ⟨fun _ => ⟨rfl, rfl⟩, ⟨fun h => Bool.noConfusion h, fun h => Bool.noConfusion h⟩⟩
  · intro x y _ hxy hx
    exact Lib.hid (hx.out.ext hxy)
  rotate_left 1
  · iterate 8
      apply Walk3.exact
      · rfl
      · rintro d ev w1 ⟨ec, eg, ef⟩ hR hS hd - hst
        have hy1 := hS.out.c0
        have hy2 := hS.out.c1
        have HST := Lib.hid hst
        clear hst
        go_simp
        intros
        go_simp
        exact ⟨Ext.refl _ _, HST.out.step (by decide) (by decide) (by decide), rfl⟩
    apply Walk3.fact (fun v w1 => v = .map (some w.heap.size) ∧ QMap w1 w.heap.size q)
    · rfl
    · rintro i v w1 w3 - _ hx _ _ ⟨h1, h2⟩
      exact ⟨h1, h2.ext hx (onMaps_nope _) (fun h => h)⟩
    · rintro d ev w1 ⟨ec, eg, ef⟩ hR hS hd - hst
      go_simp
      intros
      go_simp
      have hd8 : d 8 = false := hd
      obtain ⟨h1, h2⟩ := hst.1 hd8
      refine (cloneq_any hS.out.qm).mono ?_
      rintro e w2 ⟨rfl, hq2, he2, hs2⟩
      refine ⟨_, rfl, he2, ⟨fun h => ?_, fun _ _ => by rw [hs2, h1], fun h => ?_⟩, by rw [h1], by rw [← h1]; exact hq2⟩
      · rw [dset_same] at h
        cases h
      · rw [dset_other d (by decide)] at h
        rw [dset_other d (by decide)]
        exact hst.2.2 h
    · iterate 4
        apply Walk3.exact
        · rfl
        · rintro d ev w1 ⟨ec, eg, ef⟩ hR hS hd - hst
          have hy1 := hS.out.c0
          have hy2 := hS.out.c2
          have HST := Lib.hid hst
          clear hst
          go_simp
          intros
          go_simp
          exact ⟨Ext.refl _ _, HST.out.step (by decide) (by decide) (by decide), rfl⟩
      apply Walk3.fact (fun v w1 => v = .map (some (w.heap.size + 1)) ∧ TMap w1 (w.heap.size + 1) tn)
      · rfl
      · rintro i v w1 w3 - _ hx _ _ ⟨h1, h2⟩
        exact ⟨h1, h2.ext hx (fun h => h)⟩
      · rintro d ev w1 ⟨ec, eg, ef⟩ hR hS hd hw hst
        have hw8 : d 8 = true := hw ⟨8, .chain⟩ (by simp) rfl
        have hd13 : d 13 = false := hd
        clear hw
        go_simp
        intros
        go_simp
        have h1 := hst.2.1 hw8 hd13
        refine (clonet_any hS.out.tm).mono ?_
        rintro e w2 ⟨rfl, hq2, he2, hs2⟩
        refine ⟨_, rfl, he2, ⟨fun h => ?_, fun _ h => ?_, fun _ => dset_same _ _⟩, by rw [h1], by rw [← h1]; exact hq2⟩
        · rw [dset_other d (by decide), hw8] at h
          cases h
        · rw [dset_same] at h
          cases h
      · apply Walk3.exact
        · rfl
        · rintro d ev w1 ⟨ec, eg, ef⟩ hR - hd hw hst
          have hw13 : d 13 = true := hw ⟨13, .data⟩ (by simp) rfl
          have hst2 : StC w.heap.size (dset d 14) w1 := by
            refine ⟨fun h => ?_, fun h1 h2 => ?_, fun _ => ?_⟩
            · rw [dset_other d (by decide)] at h ⊢
              exact hst.1 h
            · rw [dset_other d (by decide)] at h1 h2
              exact hst.2.1 h1 h2
            · rw [dset_other d (by decide)]
              exact hw13
          have HST := Lib.hid hst2
          clear hst hst2 hw
          go_simp
          rintro h6 h11 - h16 -
          go_simp
          exact ⟨Ext.refl _ _, HST.out, rfl⟩
        apply Walk3.fact (fun v w1 => ∃ b', v = .pointer (some ⟨b', 0, none⟩) ∧ w.heap.size ≤ b' ∧ w1.heap[b']? = some (.cells #[.int .i64 N, .map (some w.heap.size), .map (some (w.heap.size + 1))] 52 (0, 0)))
        · rfl
        · rintro i v w1 w3 - _ hx _ _ ⟨b', h1, h2, h3⟩
          exact ⟨b', h1, h2, hx.heap h3 (fun h => h)⟩
        · rintro d ev w1 ⟨ec, eg, ef⟩ hR hS hd hw hst
          have hw14 : d 14 = true := hw ⟨14, .data⟩ (by simp) rfl
          have hd13 := hst.2.2 hw14
          have hd8 : d 8 = true := by
            cases h : d 8
            · have := (hst.1 h).2
              rw [hd13] at this
              cases this
            · rfl
          have HST := Lib.hid (show ∀ w2 : World, StC w.heap.size (dset d 15) w2 from fun w2 => ⟨fun h => absurd h (by rw [dset_other d (by decide), hd8]; decide), ⟨fun _ h => absurd h (by rw [dset_other d (by decide), hd13]; decide), fun _ => by rw [dset_other d (by decide)]; exact hd13⟩⟩)
          have HR := Lib.hid hR
          clear hst hw hR
          go_simp
          intros
          go_simp
          first
            | exact ⟨(Ext.refl _ _).alloc _, HST.out _, w1.heap.size, rfl, HR.out.size, (MapKept.heap_alloc w1 _).1⟩
            | exact ⟨(Ext.refl _ _).alloc _, HST.out _, HR.out.size, (MapKept.heap_alloc w1 _).1⟩
            | exact ⟨(Ext.refl _ _).alloc _, HST.out _, HR.out.size, (Array.getElem?_eq_some_iff.1 (MapKept.heap_alloc w1 _).1).2⟩
        exact Walk3.nil
  · rintro d w3 he3 hS3 - -
    simp only [Finish]
    rintro v18 ⟨b', rfl, hb1, hb2⟩ v16 ⟨rfl, ht⟩ v11 ⟨rfl, hq⟩
    have HN := Lib.hid (show NetAt w3 b' w.heap.size (w.heap.size + 1) N q tn from ⟨hb2, by omega, hq, ht, H.out.few⟩)
    clear hb2 ht hq
    go_simp
    go_wp2
    go_ret
    exact ⟨b', _, _, rfl, HN.out, hb1, by omega, by omega, he3⟩
end Go.Proofs.Ytjpkhediolahaaa
