/- Contracts of the reference's Room, Peek, Empty. Conditions: the net is in memory as RefAt says, the arguments are ints. -/
import Derived.Test.YtjpkhediolahaaaPb
import Derived.Test.YtjpkhediolahaaaTd
set_option linter.unusedVariables false
set_option linter.unusedSimpArgs false
set_option linter.unusedSectionVars false
set_option linter.unnecessarySimpa false
namespace Go.Proofs.Ytjpkhediolahaaa
open Go.RowKit Go.Mk Go.Maps

set_option maxHeartbeats 1000000 in
theorem rroom_any {w r rq rt N q tn} (h : RefAt w r rq rt N q tn) (c f t m : Int) (hq : (q (c, f, t)).length ≤ 64) :
    Calls Try.prog 21 #[.pointer (some ⟨r, 0, none⟩), .int .i64 c, .int .i64 f, .int .i64 t, .int .i64 m] w (BoolPost w (roomB N q (c, f, t) m)) := by
  have hat := at_any r N c f t w h.few h.c0
  cases hb : isB N (c, f, t)
  · have HB := Lib.hid hb
    clear h
    go_enter Try.func21, Try.ntmps21
    go_wp2_with fail
    refine hat.mono ?_
    rintro e w' ⟨rfl, he⟩
    rw [HB.out]
    go_wp2_with fail
    go_ret
    exact ⟨by unfold roomB; rw [HB.out]; rfl, he⟩
  · have HB := Lib.hid hb
    have H := Lib.hid h
    obtain ⟨hp1, hp2, hp3⟩ := h.inside hb
    have hrl := fun (w' : World) (he : Ext Nope w w') => rlen_any (h.ext he) c f t
    rw [hb, if_pos rfl] at hrl
    have HR := Lib.hid hrl
    generalize hl : (q (c, f, t)).length = l at *
    have HL := Lib.hid hl
    clear h hrl hl
    have hroom : ∀ b : Bool, b = (decide (0 ≤ m) && decide (m ≤ 64 - (l : Int))) → roomB N q (c, f, t) m = b := by
      rintro b rfl
      unfold roomB
      rw [HB.out, HL.out]
      rfl
    have HRM := Lib.hid hroom
    clear hroom
    by_cases h0 : 0 ≤ m
    · by_cases h64 : m ≤ 64
      · go_enter Try.func21, Try.ntmps21
        go_wp2_with fail
        refine hat.mono ?_
        rintro e w' ⟨rfl, he⟩
        rw [HB.out, if_pos rfl]
        have hk0 : (0 : Int) ≤ ((place N (c, f, t) : Nat) : Int) := by omega
        generalize place N (c, f, t) = k at *
        clear hat hb
        go_wp2_with fail
        refine (HR.out w' he).mono ?_
        rintro e w'' ⟨rfl, he2⟩
        go_wp2_with fail
        go_ret
        refine ⟨?_, he.trans he2⟩
        rw [HRM.out _ rfl]
        rw [decide_eq_true h0]
        show Ending.returned (.bool (decide ((l : Int) ≤ 64 - m))) = _
        congr 2
        simp only [Bool.true_and]
        congr 1
        simp only [eq_iff_iff]
        omega
      · go_enter Try.func21, Try.ntmps21
        go_wp2_with fail
        refine hat.mono ?_
        rintro e w' ⟨rfl, he⟩
        rw [HB.out, if_pos rfl]
        have hk0 : (0 : Int) ≤ ((place N (c, f, t) : Nat) : Int) := by omega
        generalize place N (c, f, t) = k at *
        clear hat hb
        go_wp2_with fail
        go_ret
        refine ⟨?_, he⟩
        rw [HRM.out _ rfl, decide_eq_false (by omega : ¬ m ≤ 64 - (l : Int))]
        simp
    · go_enter Try.func21, Try.ntmps21
      go_wp2_with fail
      refine hat.mono ?_
      rintro e w' ⟨rfl, he⟩
      rw [HB.out, if_pos rfl]
      have hk0 : (0 : Int) ≤ ((place N (c, f, t) : Nat) : Int) := by omega
      generalize place N (c, f, t) = k at *
      clear hat hb
      go_wp2_with fail
      go_ret
      refine ⟨?_, he⟩
      rw [HRM.out _ rfl, decide_eq_false (by omega : ¬ 0 ≤ m)]
      simp

/-- A batch and a code. -/
def RPeek (w : World) (p : Int × List UInt8) (e : Ending) (w' : World) : Prop :=
  ∃ v, e = .returned (.tuple #[v, .int .i64 p.1]) ∧ w'.ownsRow w.heap.size 5 1 v p.2.length (p.2.map byteV) ∧ Ext Nope w w'

set_option maxHeartbeats 2000000 in
theorem rpeek_any {w r rq rt N q tn} (h : RefAt w r rq rt N q tn) (c f t k : Int) (hbs : ∀ b ∈ q (c, f, t), b.length ≤ 100000) :
    Calls Try.prog 23 #[.pointer (some ⟨r, 0, none⟩), .int .i64 c, .int .i64 f, .int .i64 t, .int .i64 k] w (RPeek w (peekM N ⟨q, tn⟩ (c, f, t) k)) := by
  have hat := at_any r N c f t w h.few h.c0
  unfold peekM
  cases hb : isB N (c, f, t)
  · have HB := Lib.hid hb
    clear h
    go_enter Try.func23, Try.ntmps23
    go_wp2_with fail
    refine hat.mono ?_
    rintro e w' ⟨rfl, he⟩
    rw [HB.out]
    go_wp2_with fail
    go_ret2
    exact ⟨_, rfl, World.ownsRow_nil _ _ _ _, he⟩
  · have HB := Lib.hid hb
    have H := Lib.hid h
    obtain ⟨hp1, hp2, hp3⟩ := h.inside hb
    rw [if_pos rfl]
    simp only
    clear h
    by_cases h0 : 0 ≤ k
    · obtain ⟨n, rfl⟩ := Int.eq_ofNat_of_zero_le h0
      rw [if_pos h0, Int.toNat_natCast]
      by_cases hn : n < (q (c, f, t)).length
      · obtain ⟨bs, hb0⟩ : ∃ bs, (q (c, f, t))[n]? = some bs := ⟨_, List.getElem?_eq_getElem hn⟩
        rw [hb0]
        simp only
        have hbn := hbs _ (List.mem_of_getElem? hb0)
        have HB0 := Lib.hid hb0
        clear hb0
        have HBN := Lib.hid hbn
        clear hbn hbs h0
        go_enter Try.func23, Try.ntmps23
        go_wp2_with fail
        refine hat.mono ?_
        rintro e w' ⟨rfl, he⟩
        rw [HB.out, if_pos rfl]
        have h' := H.out.ext he
        obtain ⟨ad, cap, vs, hc, ⟨⟨hvl, ad', cap', hve, hnc, hcm, hnone, hcells⟩, hrw⟩, _⟩ := h'.row HB.out
        simp only [Value.slice.injEq] at hve
        obtain ⟨rfl, -, rfl⟩ := hve
        have hc1 := h'.c1
        have hvn : n < vs.length := by omega
        have hby := hrw n vs[n] _ (List.getElem?_eq_getElem hvn) HB0.out
        cases ad with
        | none => have := hnone rfl; omega
        | some a0 =>
          have hcn := hcells a0 rfl n _ (List.getElem?_eq_getElem hvn)
          generalize vs[n] = x at *
          generalize (q (c, f, t)).length = l at *
          generalize place N (c, f, t) = p at *
          generalize places N = K at *
          have ea : Ext Nope w' (w'.alloc (.cells #[] 5)) := (Ext.refl _ _).alloc _
          have hcn' := ea.cell hcn (fun h => h)
          have hc1' := ea.cell hc1 (fun h => h)
          have hc' := ea.cell hc (fun h => h)
          obtain ⟨v7, w7, happ, ho7, he7⟩ := app_short w' x bs (hby.extM ea (onMaps_nope _)) HBN.out
          obtain ⟨_, a6, cap6, rfl, _⟩ := hby
          have HAPP := Lib.hid happ
          have HO := Lib.hid ho7
          have HE7 := Lib.hid he7
          have hk0 : ¬ (p : Int) < 0 := by omega
          have hkK : (p : Int) < (K : Int) := by omega
          have hnl : (n : Int) < (l : Int) := by omega
          have hnl' : ¬ (l : Int) ≤ (n : Int) := by omega
          have hnl2 : ¬ l ≤ n := by omega
          have hn0 : ¬ (n : Int) < 0 := by omega
          clear hat hb h' hvl hnc hcm hnone hcells hrw hvn happ ho7 he7 hn
          go_wp2_with (at_builtin; refine wpList_append_run rfl (.tmp 34) (.tmp 44) 29 rfl rfl rfl HAPP.out ?_)
          go_ret2
          exact ⟨v7, rfl, ownsRow_base HO.out he.size, he.trans HE7.out⟩
      · rw [List.getElem?_eq_none (by omega)]
        simp only
        clear hbs
        go_enter Try.func23, Try.ntmps23
        go_wp2_with fail
        refine hat.mono ?_
        rintro e w' ⟨rfl, he⟩
        rw [HB.out, if_pos rfl]
        have h' := H.out.ext he
        obtain ⟨ad, cap, vs, hc, _, _⟩ := h'.row HB.out
        have hc1 := h'.c1
        generalize (q (c, f, t)).length = l at *
        generalize place N (c, f, t) = p at *
        generalize places N = K at *
        have hk0 : ¬ (p : Int) < 0 := by omega
        have hkK : (p : Int) < (K : Int) := by omega
        have hnl' : (l : Int) ≤ (n : Int) := by omega
        have hnl2 : l ≤ n := by omega
        have hn0 : ¬ (n : Int) < 0 := by omega
        clear hat hb h'
        go_wp2_with fail
        go_ret2
        exact ⟨_, rfl, World.ownsRow_nil _ _ _ _, he⟩
    · rw [if_neg h0]
      clear hbs
      go_enter Try.func23, Try.ntmps23
      go_wp2_with fail
      refine hat.mono ?_
      rintro e w' ⟨rfl, he⟩
      rw [HB.out, if_pos rfl]
      generalize place N (c, f, t) = p at *
      have hk0 : ¬ (p : Int) < 0 := by omega
      clear hat hb
      go_wp2_with fail
      go_ret2
      exact ⟨_, rfl, World.ownsRow_nil _ _ _ _, he⟩
end Go.Proofs.Ytjpkhediolahaaa
