/- The law's 'does': what a Push of both nets comes to. Conditions: both nets hold the same; the batch is read as bytes. -/
import Derived.Test.YtjpkhediolahaaaPq
import Derived.Test.YtjpkhediolahaaaTd
set_option linter.unusedVariables false
set_option linter.unusedSimpArgs false
set_option linter.unusedSectionVars false
set_option linter.unnecessarySimpa false
namespace Go.Proofs.Ytjpkhediolahaaa
open Go.RowKit Go.Mk Go.Maps

set_option maxHeartbeats 400000 in
theorem short_val (a : Option Addr) (n cap : Nat) (w : World) (h1 : n ≤ cap) (h2 : cap ≤ maxLen) :
    Calls Try.prog 10 #[.slice a n cap] w fun e w' => e = .returned (.slice a (min n 100) cap) ∧ w = w' := by
  unfold maxLen at h2
  by_cases hl : 100 < n
  · go_enter Try.func10, Try.ntmps10
    go_wp2
    go_ret
    refine ⟨?_, rfl⟩
    rw [show min n 100 = 100 by omega]
    cases a <;> simp [Addr.add]
  · go_enter Try.func10, Try.ntmps10
    go_wp2
    go_ret
    rw [show min n 100 = n by omega]
    exact ⟨rfl, rfl⟩
theorem short_bytes {w : World} {a : Option Addr} {cap : Nat} {bs : List UInt8} (h : BytesAt w (.slice a bs.length cap) bs) : BytesAt w (.slice a (min bs.length 100) cap) (shortOf bs) := by
  have := take_bytes (min bs.length 100) (by omega) h
  rwa [show bs.take (min bs.length 100) = shortOf bs by
    unfold shortOf
    by_cases hl : 100 ≤ bs.length
    · rw [Nat.min_eq_right hl]
    · rw [Nat.min_eq_left (by omega), List.take_length, List.take_of_length_le (by omega)]] at this

/-- Memory from lo to hi alone has turned since w1; block g of it is so many bytes. -/
def Scratch2 (lo hi : Nat) (w1 : World) (g m : Nat) (w : World) : Prop := Ext (fun k => lo ≤ k ∧ k < hi) w1 w ∧ (lo ≤ g ∧ g < hi) ∧ ∃ cur : Array Value, w.heap[g]? = some (.cells cur 5 (0, 0)) ∧ cur.size = m
theorem Scratch2.set {lo hi : Nat} {w1 w : World} {g m : Nat} (h : Scratch2 lo hi w1 g m w) (i : Nat) (v : Value) : Scratch2 lo hi w1 g m (w.setCell ⟨g, i, none⟩ v) := by
  obtain ⟨h1, h2, cur, h3, h4⟩ := h
  exact ⟨h1.setCell (p := ⟨g, i, none⟩) (.inl h2) v, h2, _, heap_setCell_same h3 i v, by simpa using h4⟩
theorem Scratch2.cell {lo hi : Nat} {w1 w : World} {g m : Nat} (h : Scratch2 lo hi w1 g m w) {i : Nat} (hi' : i < m) : ∃ u, w.cell? ⟨g, i, none⟩ = some u := by
  obtain ⟨h1, h2, cur, h3, h4⟩ := h
  exact ⟨cur[i]'(by omega), by simp [World.cell?, h3]⟩
theorem Scratch2.free {lo hi : Nat} {w1 w : World} {g m : Nat} (h : Scratch2 lo hi w1 g m w) (i : Nat) : w.frozen? ⟨g, i, none⟩ = false := by
  obtain ⟨h1, h2, cur, h3, h4⟩ := h
  simp [World.frozen?, h3]

/-- A batch of the caller's own, that lies in memory from lo to hi, which alone has turned since w1. -/
def OwnPart (lo hi : Nat) (w1 : World) (a : Option Addr) (n m : Nat) (w : World) : Prop :=
  Ext (fun k => lo ≤ k ∧ k < hi) w1 w ∧ (0 < n → ∃ g, a = some ⟨g, 0, none⟩ ∧ n ≤ m ∧ Scratch2 lo hi w1 g m w)
theorem OwnPart.of {lo : Nat} {w0 w1 : World} {a : Option Addr} {n m : Nat} {xs : List Value} (h : w0.ownsRow lo 5 1 (.slice a n m) n xs) {M : Nat → Prop} (he : Ext M w0 w1) (hM : ∀ k, M k → k < lo) : OwnPart lo w0.heap.size w1 a n m w1 := by
  refine ⟨Ext.refl _ _, fun hn => ?_⟩
  obtain ⟨g, cur, rfl, hg, hb, hs, _, hnc, _⟩ := own_head h hn
  have hlt := (Array.getElem?_eq_some_iff.1 hb).1
  exact ⟨g, rfl, hnc, Ext.refl _ _, ⟨hg, hlt⟩, cur, he.heap hb (fun hk => by have := hM g hk; omega), hs⟩

/-- How far the pushing has come. -/
def StP (W : World) (b bq bt r rq rt : Nat) (N : Int) (s s' : NS) (d : Nat → Bool) (w : World) : Prop := Pr W w b bq bt r rq rt N s' (if d 11 then s' else s)
theorem StP.step {W w : World} {b bq bt r rq rt : Nat} {N : Int} {s s' : NS} {d : Nat → Bool} (h : StP W b bq bt r rq rt N s s' d w) {i : Nat} (h1 : i ≠ 11) : StP W b bq bt r rq rt N s s' (dset d i) w := by
  unfold StP
  rw [dset_other d h1.symm]
  exact h
theorem StP.pushY {W w : World} {b bq bt r rq rt : Nat} {N : Int} {s : NS} {d : Nat → Bool} {c f u : Int} {v : Value} {bs : List UInt8} (h : StP W b bq bt r rq rt N s (pushM N s (c, f, u) bs).2 d w) (hd : d 11 = false) (hv : BytesAt W v bs) (hb : bs.length ≤ 100000) :
    Calls Try.prog 33 #[.pointer (some ⟨r, 0, none⟩), .int .i64 c, .int .i64 f, .int .i64 u, v] w fun e w' => e = .returned (.int .i64 (pushM N s (c, f, u) bs).1) ∧ StP W b bq bt r rq rt N s (pushM N s (c, f, u) bs).2 (dset d 11) w' ∧ Ext (RTwo rq rt) w w' := by
  unfold StP at h ⊢
  rw [hd] at h
  rw [dset_same]
  refine (py_push h c f u v bs (hv.extM h.ext (onMaps_nope _)) hb).mono ?_
  rintro e w' ⟨⟨rfl, hp⟩, he⟩
  exact ⟨rfl, hp, he⟩

set_option maxRecDepth 20000 in
set_option maxHeartbeats 800000 in
theorem does_push {W w : World} {b bq bt r rq rt : Nat} {N : Int} {s : NS} (h : Pr W w b bq bt r rq rt N s s) (kd c f u k : Int) (va : Option Addr) (vc : Nat) (bs : List UInt8) (hvb : BytesAt W (.slice va bs.length vc) bs) (hx : wayOk (c, f, u)) (h1 : -9223372036854775808 ≤ kd) (h2 : kd ≤ 9223372036854775807) (hk : kindOf kd 8 < 4) :
    Calls Try.prog 20 #[.pointer (some ⟨b, 0, none⟩), .pointer (some ⟨r, 0, none⟩), opV kd c f u k (.slice va bs.length vc)] w (DoesPost W b bq bt r rq rt N) := by
  have hd := Dt.made h kd c f u k (.slice va bs.length vc)
  obtain ⟨_, _, _, hv1, hn1, hn2, _⟩ := id hvb
  simp only [Value.slice.injEq] at hv1
  obtain ⟨rfl, -, rfl⟩ := hv1
  have HX := Lib.hid hx
  have HD := Lib.hid hd
  have HB := Lib.hid (short_bytes hvb)
  have hsv := fun w => short_val va bs.length vc w hn1 hn2
  have hka := fun w' => kind_any kd 8 w' h1 h2 (by omega) (by omega)
  have hk0 := (kindOf_bd kd 8 (by omega)).1
  unfold opV
  generalize kindOf kd 8 = kk at *
  clear h hx h1 h2 hvb hn1 hn2
  go_enter Try.func20, Try.ntmps20
  go_wp2_with fail
  refine (hka _).mono ?_
  rintro e w1 ⟨rfl, rfl⟩
  clear hka
  obtain ⟨o0, o1, o2, o3, o4, o5⟩ := hd.op.cells
  clear hd
  have k4 : kk ≠ 4 := by omega
  have k5 : kk ≠ 5 := by omega
  have k6 : kk ≠ 6 := by omega
  have k7 : kk ≠ 7 := by omega
  go_wp2_with fail
  refine (hsv _).mono ?_
  rintro e w2 ⟨rfl, rfl⟩
  generalize hw1 : w.alloc (.cells #[.int .i64 kd, .int .i64 c, .int .i64 f, .int .i64 u, .int .i64 k, .slice va bs.length vc] 46) = w1 at *
  have ho1 : w1.heap.size = w.heap.size + 1 := by rw [← hw1]; simp
  generalize hoo : w.heap.size = o at *
  clear hw1 hoo
  have hW1 : Ext Nope W w1 := HD.out.pr.ext
  have hbl : (shortOf bs).length ≤ 100000 := shortOf_len bs
  obtain ⟨v5, w5, hrun, hown, he5⟩ := app_short w1 (.slice va (min bs.length 100) vc) (shortOf bs) (HB.out.extM (hW1.alloc _) (onMaps_nope _)) hbl
  rw [ho1] at hrun
  have HAPP := Lib.hid hrun
  have HO5 := Lib.hid hown
  have HE5 := Lib.hid he5
  clear hrun hown he5 hW1
  obtain ⟨a5, c5, rfl⟩ := own_slice HO5.out
  have o1' := HE5.out.cell o1 (fun h => h)
  have o2' := HE5.out.cell o2 (fun h => h)
  have o3' := HE5.out.cell o3 (fun h => h)
  clear o0 o1 o2 o3 o4 o5
  go_wp2_with (at_builtin; refine wpList_append_run rfl (.tmp 127) (.tmp 130) 29 rfl rfl rfl HAPP.out ?_)
  refine (pn_push HD.out.pr HE5.out c f u _ (shortOf bs) HX.out (SliceAt.of_own HO5.out) hbl).mono ?_
  rintro e w6 ⟨rfl, hfar, he6⟩
  have l1 := HD.out.pr.net.net.ltq
  have l2 := HD.out.pr.net.net.ltt
  have hop1 := OwnPart.of HO5.out he6 (fun k hk => by rcases hk with rfl | rfl <;> omega)
  have hop6 : OpAt w6 o kd c f u k (.slice va bs.length vc) := ((HD.out.go HE5.out).goN (HD.out.pr.on HE5.out |>.onN (hfar w6 (Ext.refl _ _)).net he6) he6).op
  have HFAR := Lib.hid hfar
  have HOP := Lib.hid hop6
  have HP1 := Lib.hid hop1
  have hn32 : ((shortOf bs).length : Int) ≤ 100 := by simp [shortOf]; omega
  generalize hnn : (shortOf bs).length = n at *
  generalize hlo : w1.heap.size = lo at *
  generalize hhi : w5.heap.size = hi at *
  have HLO := Lib.hid (show o < lo by omega)
  have HRQ := Lib.hid (show rq < lo by rw [← hlo]; exact HD.out.pr.ref.ltq)
  have HRT := Lib.hid (show rt < lo by rw [← hlo]; exact HD.out.pr.ref.ltt)
  clear hfar hop1 hop6 he6 o1' o2' o3' HO5 hlo hhi l1 l2
  go_wp2_with fail
  go_loopw [18] (fun i wr => ∃ p : Nat, p ≤ n ∧ i = .int .i64 p ∧ Hid (OwnPart lo hi w6 a5 n c5 wr)) (fun i _ => n - (intOf i).toNat)
  case atStart => exact ⟨0, Nat.zero_le _, rfl, HP1⟩
  case round =>
    obtain ⟨p, hp, rfl, HR⟩ := hrel
    by_cases hpn : p < n
    · have hpn' : (p : Int) < (n : Int) := by omega
      obtain ⟨g, rfl, hnc, hsc⟩ := HR.out.2 (by omega)
      obtain ⟨x, hxx⟩ := hsc.cell (i := p) (by omega)
      have hfz := hsc.free p
      have HR2 := Lib.hid (show OwnPart lo hi w6 (some ⟨g, 0, none⟩) n c5 (wr.setCell ⟨g, p, none⟩ (.int .u8 99)) from ⟨(hsc.set p (.int .u8 99)).1, fun _ => ⟨g, rfl, hnc, hsc.set p _⟩⟩)
      clear hsc
      go_wp2_with fail
      go_roundw
      case rel => exact ⟨p + 1, by omega, by go_num, HR2⟩
      case measure => simp [intOf]; omega
    · have hpn' : ¬ (p : Int) < (n : Int) := by omega
      go_wp2_with fail
      have hpr := HFAR.out wr HR.out.1
      have hopr : OpAt wr o kd c f u k (.slice va bs.length vc) := HR.out.1.heap HOP.out (fun hk => by have := HLO.out; omega)
      have HPR := Lib.hid hpr
      have HOR := Lib.hid hopr
      clear hpr hopr HR HP1 HAPP
      refine' wp_region_steps 13 163 (by kernel_rfl) rfl (by kernel_rfl) (Ext (RTwo rq rt)) (fun _ => Ext (RTwo rq rt)) (fun w2 => Hid (OpAt w2 o kd c f u k (.slice va bs.length vc))) (StP W b bq bt r rq rt N s (pushM N s (c, f, u) (shortOf bs)).2) (fun h k => h.trans k) (fun h => h) ?_ ?_ ?_ ?_ _ ?_ ?_
      · exact (Ext.refl _ _).drew
      · exact HOR
      · exact HPR.out.on (Ext.refl _ _).drew
      · intro x y _ hxy hx
        have e1 := HLO.out
        have e2 := HD.out.far
        exact Lib.hid (hxy.heap hx.out (fun hk => by rcases hk with e | e; exact e2.1 e; exact e2.2 e))
      rotate_left 1
      · skip
        iterate 10
          apply Walk3.exact
          · rfl
          · rintro d ev w1 ⟨ec, eg, ef⟩ hR hS hd - hst
            obtain ⟨_, y1, y2, y3, y4, y5⟩ := OpAt.cells hS.out
            have HST := Lib.hid hst
            clear hst
            go_simp
            intros
            go_simp
            exact ⟨Ext.refl _ _, HST.out.step (by decide), rfl⟩
        apply Walk3.exact (.slice va (min bs.length 100) vc)
        · rfl
        · rintro d ev w1 ⟨ec, eg, ef⟩ hR hS hd - hst
          have HST := Lib.hid hst
          clear hst
          go_simp
          intros
          go_simp
          refine (hsv _).mono ?_
          rintro e w2 ⟨rfl, rfl⟩
          exact ⟨_, rfl, Ext.refl _ _, HST.out.step (by decide), rfl⟩
        apply Walk3.exact (.int .i64 (pushM N s (c, f, u) (shortOf bs)).1)
        · rfl
        · rintro d ev w1 ⟨ec, eg, ef⟩ hR hS hd - hst
          have hdi : d 11 = false := hd
          have HC := Lib.hid (StP.pushY hst hdi HB.out (shortOf_len bs))
          clear hst
          go_simp
          intros
          go_simp
          refine HC.out.mono ?_
          rintro e w2 ⟨rfl, hs2, he2⟩
          exact ⟨_, rfl, he2, hs2, rfl⟩
        iterate 1
          apply Walk3.exact
          · rfl
          · rintro d ev w1 ⟨ec, eg, ef⟩ hR hS hd - hst
            obtain ⟨_, y1, y2, y3, y4, y5⟩ := OpAt.cells hS.out
            have HST := Lib.hid hst
            clear hst
            go_simp
            intros
            go_simp
            exact ⟨Ext.refl _ _, HST.out.step (by decide), rfl⟩
        exact Walk3.nil
      · rintro d w3 he3 - hall hst
        simp only [Finish]
        have h11 := hall 11 (by decide)
        unfold StP at hst
        rw [h11] at hst
        have HST := Lib.hid hst
        clear hst
        go_simp
        go_wp2_with fail
        go_ret
        exact ⟨rfl, _, HST.out⟩
end Go.Proofs.Ytjpkhediolahaaa
