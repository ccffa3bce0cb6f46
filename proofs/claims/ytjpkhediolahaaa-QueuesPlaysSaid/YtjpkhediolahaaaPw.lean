/- The walk of QueuesPlays: it returns true. Conditions: the calls are read in memory; the first argument is an int. -/
import Derived.Test.YtjpkhediolahaaaPv
import Derived.Deep.CutBlock
set_option linter.unusedVariables false
set_option linter.unusedSimpArgs false
set_option linter.unusedSectionVars false
set_option linter.unnecessarySimpa false
namespace Go.Proofs.Ytjpkhediolahaaa
open Go.RowKit Go.Mk Go.Maps

set_option maxRecDepth 20000 in
set_option maxHeartbeats 4000000 in
theorem plays_walk (n : Int) (a : Option Addr) (cap : Nat) (L : List OpR) (W : World) (hL : OpsAt W a cap L) :
    Calls Try.prog 6 #[.int .i64 n, .slice a L.length cap] W (BoolPost W true) := by
  have HZ := Lib.hid (ops_one hL)
  have hm : L.length ≤ 9223372036854775807 := Nat.le_trans hL.1 hL.2.1
  have HM := Lib.hid hm
  clear hL hm
  go_enter Try.func6, Try.ntmps6
  go_wp2_with fail
  refine (shown_any _).mono ?_
  rintro e w1 ⟨rfl, he1⟩
  go_wp2_with fail
  refine (like_new W w1 he1 n).mono ?_
  rintro e w2 ⟨b0, bq0, bt0, rfl, h2⟩
  have HN := Lib.hid h2
  clear h2 he1
  go_wp2_with fail
  refine (like_ref HN.out).mono ?_
  rintro e w3 ⟨r, rq, rt, rfl, h3⟩
  have HL3 := Lib.hid h3
  clear h3 HN
  generalize min (max n 0) 16 = N at *
  go_upto_block 0 with fail
  go_cut [6, 8, 9, 10] (fun s6 s8 s9 s10 wx => ∃ b : Nat, s6 = .pointer (some ⟨b, 0, none⟩) ∧ Hid (Like W b r rq rt N wx))
  case first => as_aux_lemma =>
    go_wp2_with fail
    go_loopw [6, 8, 9, 10] (fun n6 i s9 s10 wr => ∃ p : Nat, p ≤ min L.length 150 ∧ i = .int .i64 p ∧ ∃ b : Nat, n6 = .pointer (some ⟨b, 0, none⟩) ∧ Hid (Like W b r rq rt N wr)) (fun _ i _ _ _ => 150 - (intOf i).toNat)
    case atStart => exact ⟨0, Nat.zero_le _, rfl, _, rfl, HL3⟩
    case round =>
      obtain ⟨p, hp, rfl, b, rfl, HR⟩ := hrel
      by_cases hlt : p < L.length
      · by_cases h150 : p < 150
        · obtain ⟨B, F, rfl, hops⟩ := HZ.out (by omega)
          obtain ⟨hok, va, vc, hcs, hby⟩ := hops p hlt
          obtain ⟨hok0, va0, vc0, hcs0, -⟩ := hops 0 (by omega)
          rw [Nat.zero_mul, Nat.add_zero] at hcs0
          have hlt' : (p : Int) < (L.length : Int) := by omega
          have h150' : (p : Int) < 150 := by omega
          have hl0 : 0 < L.length := by omega
          generalize hop : L[p] = o at *
          generalize hop0 : L[0] = o0 at *
          have HOK := Lib.hid hok
          have HOK0 := Lib.hid hok0
          have HC := Lib.hid hcs
          have HC0 := Lib.hid hcs0
          have HB := Lib.hid hby
          clear hok hok0 hcs hcs0 hby hops hop hop0
          go_upto_if 41 with fail
          go_cut [6, 9] (fun s6 s9 wx => ∃ b' : Nat, s6 = .pointer (some ⟨b', 0, none⟩) ∧ Hid (Like W b' r rq rt N wx))
          case first =>
            by_cases h20 : (p : Int) % 20 = 19
            · go_wp2_with fail
              obtain ⟨bq, bt, s, hpr⟩ := HR.out
              have HP := Lib.hid hpr
              clear hpr HR
              refine (pn_clone HP.out).mono ?_
              rintro e w4 ⟨b', bq', bt', rfl, hp4, ho4⟩
              have HP4 := Lib.hid hp4
              have HO4 := Lib.hid ho4
              clear hp4 ho4 HP
              go_wp2_with fail
              have HPO := Lib.hid (And.intro HP4.out HO4.out)
              clear HP4 HO4
              refine' wp_region_steps 14 239 (by kernel_rfl) rfl (by kernel_rfl) (fun _ _ => True) (fun _ _ _ => True) (fun _ => True) (fun _ w5 => Hid (Pr W w5 b' bq' bt' r rq rt N s s ∧ OldNet W w5 b bq bt b' bq' bt' N)) (fun _ _ => trivial) (fun _ => trivial) trivial trivial ?_ (fun _ _ _ => trivial) _ ?_ ?_
              · exact Lib.hid ⟨HPO.out.1.on (Ext.refl _ _).drew, HPO.out.2.on (Ext.refl _ _).drew⟩
              rotate_left 1
              · skip
                iterate 13
                  apply Walk3.exact
                  · rfl
                  · rintro d ev w5 ⟨ec, eg, ef⟩ - - - - hst
                    obtain ⟨y0, y1, y2, y3, y4, y5⟩ := HC0.out.ext hst.out.1.ext
                    go_simp
                    intros
                    go_simp
                    first | exact rfl | exact ⟨hst, rfl⟩
                apply Walk3.fact (fun _ _ => True)
                · rfl
                · exact fun _ _ _ _ _ _ _ _ _ _ => trivial
                · rintro d ev w5 ⟨ec, eg, ef⟩ - - - - hst
                  have HPU := Lib.hid (old_push hst.out.1 hst.out.2 o0.c o0.f o0.u HOK0.out.2.1)
                  go_simp
                  intros
                  go_simp
                  refine HPU.out.mono ?_
                  rintro e w6 ⟨⟨m, rfl⟩, h6⟩
                  exact ⟨⟨_, rfl⟩, Lib.hid h6⟩
                exact Walk3.nil
              rintro d w5 - - - hst
              simp only [Finish]
              intro v60 _
              go_simp
              go_wp2_with fail
              clear HPO
              refine' wp_region_steps 14 239 (by kernel_rfl) rfl (by kernel_rfl) (fun _ _ => True) (fun _ _ _ => True) (fun _ => True) (fun _ w5 => Hid (Pr W w5 b' bq' bt' r rq rt N s s ∧ OldNet W w5 b bq bt b' bq' bt' N)) (fun _ _ => trivial) (fun _ => trivial) trivial trivial ?_ (fun _ _ _ => trivial) _ ?_ ?_
              · exact Lib.hid ⟨hst.out.1.on (Ext.refl _ _).drew, hst.out.2.on (Ext.refl _ _).drew⟩
              rotate_left 1
              · skip
                iterate 13
                  apply Walk3.exact
                  · rfl
                  · rintro d ev w5 ⟨ec, eg, ef⟩ - - - - hst
                    obtain ⟨y0, y1, y2, y3, y4, y5⟩ := HC0.out.ext hst.out.1.ext
                    go_simp
                    intros
                    go_simp
                    first | exact rfl | exact ⟨hst, rfl⟩
                apply Walk3.fact (fun _ _ => True)
                · rfl
                · exact fun _ _ _ _ _ _ _ _ _ _ => trivial
                · rintro d ev w5 ⟨ec, eg, ef⟩ - - - - hst
                  have HPU := Lib.hid (old_turn hst.out.1 hst.out.2 o0.c o0.f o0.u 0 HOK0.out.2.1)
                  go_simp
                  intros
                  go_simp
                  refine HPU.out.mono ?_
                  rintro e w6 ⟨⟨m, rfl⟩, h6⟩
                  exact ⟨⟨_, rfl⟩, Lib.hid h6⟩
                exact Walk3.nil
              rintro d w5 - - - hst
              simp only [Finish]
              intro v74 _
              go_simp
              go_wp2_with fail
              go_meet
              case rel => exact ⟨b', rfl, Lib.hid ⟨bq', bt', s, hst.out.1⟩⟩
            · go_wp2_with fail
              go_meet
              case rel => exact ⟨b, rfl, HR⟩
          case rest =>
          obtain ⟨b', rfl, HR'⟩ := hcut
          clear HR
          obtain ⟨k0, k1, k2, k3, k4, k5⟩ := HC.out.ext HR'.out.ext
          go_wp2_with fail
          refine (like_does HR'.out o HOK.out va vc HB.out).mono ?_
          rintro e w4 ⟨rfl, h4⟩
          obtain ⟨bq, bt, s, hpr⟩ := h4
          have HP := Lib.hid hpr
          clear hpr HR' k0 k1 k2 k3 k4 k5
          go_wp2_with fail
          refine' wp_region_steps 49 239 (by kernel_rfl) rfl (by kernel_rfl) (fun _ _ => True) (fun _ _ _ => True) (fun _ => True) (fun _ w5 => Hid (Pr W w5 b' bq bt r rq rt N s s)) (fun _ _ => trivial) (fun _ => trivial) trivial trivial ?_ (fun _ _ _ => trivial) _ ?_ ?_
          · exact Lib.hid (HP.out.on (Ext.refl _ _).drew)
          rotate_left 1
          · skip
            iterate 24
              apply Walk3.exact
              · rfl
              · rintro d ev w5 ⟨ec, eg, ef⟩ - - - - hst
                obtain ⟨y0, y1, y2, y3, y4, y5⟩ := HC.out.ext hst.out.ext
                go_simp
                intros
                go_simp
                first | exact rfl | exact ⟨hst, rfl⟩
            apply Walk3.exact (.bool (roomB N s.q (o.c, o.f, o.u) o.k))
            · rfl
            · rintro d ev w5 ⟨ec, eg, ef⟩ - - - - hst
              have HPU := Lib.hid (pn_room hst.out o.c o.f o.u o.k HOK.out.2.1)
              go_simp
              intros
              go_simp
              refine HPU.out.mono ?_
              rintro e w6 ⟨rfl, h6⟩
              first | exact ⟨rfl, Lib.hid (hst.out.on h6)⟩ | exact ⟨_, rfl, Lib.hid (hst.out.on h6), rfl⟩
            iterate 21
              apply Walk3.exact
              · rfl
              · rintro d ev w5 ⟨ec, eg, ef⟩ - - - - hst
                obtain ⟨y0, y1, y2, y3, y4, y5⟩ := HC.out.ext hst.out.ext
                go_simp
                intros
                go_simp
                first | exact rfl | exact ⟨hst, rfl⟩
            apply Walk3.exact (.bool (roomB N s.q (o.c, o.f, o.u) o.k))
            · rfl
            · rintro d ev w5 ⟨ec, eg, ef⟩ - - - - hst
              have HPU := Lib.hid (py_room hst.out o.c o.f o.u o.k)
              go_simp
              intros
              go_simp
              refine HPU.out.mono ?_
              rintro e w6 ⟨rfl, h6⟩
              first | exact ⟨rfl, Lib.hid (hst.out.on h6)⟩ | exact ⟨_, rfl, Lib.hid (hst.out.on h6), rfl⟩
            iterate 2
              apply Walk3.exact
              · rfl
              · rintro d ev w5 ⟨ec, eg, ef⟩ - - - - hst
                obtain ⟨y0, y1, y2, y3, y4, y5⟩ := HC.out.ext hst.out.ext
                go_simp
                intros
                go_simp
                first | exact rfl | exact ⟨hst, rfl⟩
            exact Walk3.nil
          rintro d w5 - - - hst
          simp only [Finish]
          have HL5 : Hid (Like W b' r rq rt N w5) := Lib.hid ⟨bq, bt, s, hst.out⟩
          clear hst HP
          go_simp
          go_wp2_with fail
          go_roundw
          case rel => exact ⟨p + 1, by omega, by go_num, b', rfl, HL5⟩
          case measure => simp [intOf]; omega
        · have h150' : ¬ (p : Int) < 150 := by omega
          have hlt' : (p : Int) < (L.length : Int) := by omega
          go_wp2_with fail
          go_meet
          case rel => exact ⟨b, rfl, HR⟩
      · have hlt' : ¬ (p : Int) < (L.length : Int) := by omega
        go_wp2_with fail
        go_meet
        case rel => exact ⟨b, rfl, HR⟩
  case rest =>
  obtain ⟨b, rfl, HR⟩ := hcut
  obtain ⟨bq, bt, s, hpr⟩ := HR.out
  have HP := Lib.hid hpr
  clear hpr HR HL3
  go_upto_block 2 with fail
  go_cut [11, 12, 13, 14, 15, 16, 17] (fun s11 s12 s13 s14 s15 s16 s17 wx => Hid (Pr W wx b bq bt r rq rt N s s))
  case first => as_aux_lemma =>
    go_wp2_with fail
    go_loopw [11, 12, 13, 14, 15, 16, 17] (fun i s12 s13 s14 s15 s16 s17 wr => ∃ p : Nat, p ≤ min L.length 150 ∧ i = .int .i64 p ∧ Hid (Pr W wr b bq bt r rq rt N s s)) (fun i _ _ _ _ _ _ _ => 150 - (intOf i).toNat)
    case atStart => exact ⟨0, Nat.zero_le _, rfl, HP⟩
    case round =>
      clear HP
      obtain ⟨p, hp, rfl, HP⟩ := hrel
      by_cases hlt : p < L.length
      · by_cases h150 : p < 150
        · obtain ⟨B, F, rfl, hops⟩ := HZ.out (by omega)
          obtain ⟨hok, va, vc, hcs, hby⟩ := hops p hlt
          have hlt' : (p : Int) < (L.length : Int) := by omega
          have h150' : (p : Int) < 150 := by omega
          generalize hop : L[p] = o at *
          have HOK := Lib.hid hok
          have HC := Lib.hid hcs
          clear hok hcs hby hops hop
          have h64 := (HP.out.okt (o.c, o.f, o.u)).1
          go_wp2_with fail
          refine' wp_region_steps 17 239 (by kernel_rfl) rfl (by kernel_rfl) (fun _ _ => True) (fun _ _ _ => True) (fun _ => True) (fun _ w5 => Hid (Pr W w5 b bq bt r rq rt N s s)) (fun _ _ => trivial) (fun _ => trivial) trivial trivial ?_ (fun _ _ _ => trivial) _ ?_ ?_
          · exact Lib.hid (HP.out.on (Ext.refl _ _).drew)
          rotate_left 1
          · skip
            iterate 16
              apply Walk3.exact
              · rfl
              · rintro d ev w5 ⟨ec, eg, ef⟩ - - - - hst
                obtain ⟨y0, y1, y2, y3, y4, y5⟩ := HC.out.ext hst.out.ext
                go_simp
                intros
                go_simp
                first | exact rfl | exact ⟨hst, rfl⟩
            apply Walk3.exact (.int .i64 ((s.q (o.c, o.f, o.u)).length : Int))
            · rfl
            · rintro d ev w5 ⟨ec, eg, ef⟩ - - - - hst
              have HPU := Lib.hid (py_len hst.out o.c o.f o.u)
              go_simp
              intros
              go_simp
              refine HPU.out.mono ?_
              rintro e w6 ⟨rfl, h6⟩
              first | exact ⟨rfl, Lib.hid (hst.out.on h6)⟩ | exact ⟨_, rfl, Lib.hid (hst.out.on h6), rfl⟩
            exact Walk3.nil
          rintro d w4 - - - hst
          simp only [Finish]
          have HP4 := hst
          clear hst HP
          go_simp
          go_wp2_with fail
          refine' wp_region_steps 19 239 (by kernel_rfl) rfl (by kernel_rfl) (fun _ _ => True) (fun _ _ _ => True) (fun _ => True) (fun _ w5 => Hid (Pr W w5 b bq bt r rq rt N s s)) (fun _ _ => trivial) (fun _ => trivial) trivial trivial ?_ (fun _ _ _ => trivial) _ ?_ ?_
          · exact Lib.hid (HP4.out.on (Ext.refl _ _).drew)
          rotate_left 1
          · skip
            iterate 16
              apply Walk3.exact
              · rfl
              · rintro d ev w5 ⟨ec, eg, ef⟩ - - - - hst
                obtain ⟨y0, y1, y2, y3, y4, y5⟩ := HC.out.ext hst.out.ext
                go_simp
                intros
                go_simp
                first | exact rfl | exact ⟨hst, rfl⟩
            apply Walk3.exact (.int .i64 ((s.q (o.c, o.f, o.u)).length : Int))
            · rfl
            · rintro d ev w5 ⟨ec, eg, ef⟩ - - - - hst
              have HPU := Lib.hid (pn_len hst.out o.c o.f o.u HOK.out.2.1)
              go_simp
              intros
              go_simp
              refine HPU.out.mono ?_
              rintro e w6 ⟨rfl, h6⟩
              first | exact ⟨rfl, Lib.hid (hst.out.on h6)⟩ | exact ⟨_, rfl, Lib.hid (hst.out.on h6), rfl⟩
            iterate 2
              apply Walk3.exact
              · rfl
              · rintro d ev w5 ⟨ec, eg, ef⟩ - - - - hst
                obtain ⟨y0, y1, y2, y3, y4, y5⟩ := HC.out.ext hst.out.ext
                go_simp
                intros
                go_simp
                first | exact rfl | exact ⟨hst, rfl⟩
            exact Walk3.nil
          rintro d w7 - - - hst
          simp only [Finish]
          have HP7 := hst
          clear hst HP4
          go_simp
          generalize hK : (s.q (o.c, o.f, o.u)).length = K at *
          go_wp2_with fail
          go_loopw [13, 14, 15, 16, 17] (fun s13 s14 s15 s16 s17 wr => ∃ q : Nat, q ≤ K ∧ s13 = .int .i64 q ∧ Hid (Pr W wr b bq bt r rq rt N s s)) (fun s13 _ _ _ _ _ => K - (intOf s13).toNat)
          case atStart => exact ⟨0, Nat.zero_le _, rfl, HP7⟩
          case round =>
            clear HP7
            obtain ⟨q, hq, rfl, HPq⟩ := hrel
            by_cases hqK : q < K
            · have hqK' : (q : Int) < (K : Int) := by omega
              go_wp2_with fail
              refine' wp_region_steps 23 239 (by kernel_rfl) rfl (by kernel_rfl) (Ext Nope) (fun _ => Ext Nope) (fun _ => True) (fun _ w5 => Hid (Pr W w5 b bq bt r rq rt N s s)) (fun h k => h.trans k) (fun h => h) ((Ext.refl _ _).drew) trivial ?_ (fun _ _ _ => trivial) _ ?_ ?_
              · exact Lib.hid (HPq.out.on (Ext.refl _ _).drew)
              rotate_left 1
              · skip
                iterate 17
                  apply Walk3.exact
                  · rfl
                  · rintro d ev w5 ⟨ec, eg, ef⟩ - - - - hst
                    obtain ⟨y0, y1, y2, y3, y4, y5⟩ := HC.out.ext hst.out.ext
                    go_simp
                    intros
                    go_simp
                    first | exact ⟨Ext.refl _ _, rfl⟩ | exact ⟨Ext.refl _ _, hst, rfl⟩
                apply Walk3.fact (fun v5 w5 => ∃ v, v5 = .tuple #[v, .int .i64 (peekM N s (o.c, o.f, o.u) (q : Int)).1] ∧ BytesAt w5 v (peekM N s (o.c, o.f, o.u) (q : Int)).2)
                · rfl
                · rintro i v5 w5 w6 - - hx - - ⟨v, h1, h2⟩
                  exact ⟨v, h1, h2.extM hx (onMaps_nope _)⟩
                · rintro d ev w5 ⟨ec, eg, ef⟩ - - - - hst
                  have HPU := Lib.hid (pn_peek hst.out o.c o.f o.u q HOK.out.2.1)
                  go_simp
                  intros
                  go_simp
                  refine HPU.out.mono ?_
                  rintro e w6 ⟨v, rfl, ho, h6⟩
                  exact ⟨_, rfl, h6, Lib.hid (hst.out.on h6), v, rfl, SliceAt.of_own ho⟩
                apply Walk3.fact (fun v5 w5 => ∃ v, v5 = .tuple #[v, .int .i64 (peekM N s (o.c, o.f, o.u) (q : Int)).1] ∧ BytesAt w5 v (peekM N s (o.c, o.f, o.u) (q : Int)).2)
                · rfl
                · rintro i v5 w5 w6 - - hx - - ⟨v, h1, h2⟩
                  exact ⟨v, h1, h2.extM hx (onMaps_nope _)⟩
                · rintro d ev w5 ⟨ec, eg, ef⟩ - - - - hst
                  go_simp
                  rintro v h1 h2
                  have H2 := Lib.hid h2
                  clear h2
                  go_simp
                  first | exact ⟨Ext.refl _ _, H2.out⟩ | exact ⟨Ext.refl _ _, v, rfl, H2.out⟩
                apply Walk3.fact (fun v5 w5 => BytesAt w5 v5 (peekM N s (o.c, o.f, o.u) (q : Int)).2)
                · rfl
                · rintro i v5 w5 w6 - - hx - - h2
                  exact h2.extM hx (onMaps_nope _)
                · rintro d ev w5 ⟨ec, eg, ef⟩ - - - - hst
                  go_simp
                  rintro v h1 h2
                  have H2 := Lib.hid h2
                  clear h2
                  go_simp
                  first | exact ⟨Ext.refl _ _, H2.out⟩ | exact ⟨Ext.refl _ _, hst, H2.out⟩
                apply Walk3.exact (.int .i64 (peekM N s (o.c, o.f, o.u) (q : Int)).1)
                · rfl
                · rintro d ev w5 ⟨ec, eg, ef⟩ - - - - hst
                  go_simp
                  rintro v h1 h2
                  have H2 := Lib.hid h2
                  clear h2
                  go_simp
                  exact Ext.refl _ _
                apply Walk3.fact (fun v5 w5 => BytesAt w5 v5 (peekM N s (o.c, o.f, o.u) (q : Int)).2)
                · rfl
                · rintro i v5 w5 w6 - - hx - - h2
                  exact h2.extM hx (onMaps_nope _)
                · rintro d ev w5 ⟨ec, eg, ef⟩ - - - - hst
                  go_simp
                  rintro h2
                  have H2 := Lib.hid h2
                  clear h2
                  go_simp
                  first | exact ⟨Ext.refl _ _, H2.out⟩ | exact ⟨Ext.refl _ _, hst, H2.out⟩
                apply Walk3.exact (.int .i64 (peekM N s (o.c, o.f, o.u) (q : Int)).1)
                · rfl
                · rintro d ev w5 ⟨ec, eg, ef⟩ - - - - hst
                  go_simp
                  intros
                  go_simp
                  exact Ext.refl _ _
                exact Walk3.nil
              rintro d w8 he8 - - hst8
              simp only [Finish]
              rintro va14 hb14 va201 - va182 - va200 -
              have HB14 := Lib.hid hb14
              clear hb14 HPq
              go_simp
              go_wp2_with fail
              refine' wp_region_steps 23 239 (by kernel_rfl) rfl (by kernel_rfl) (Ext Nope) (fun _ => Ext Nope) (fun _ => True) (fun _ w5 => Hid (Pr W w5 b bq bt r rq rt N s s)) (fun h k => h.trans k) (fun h => h) ((Ext.refl _ _).drew) trivial ?_ (fun _ _ _ => trivial) _ ?_ ?_
              · exact Lib.hid (hst8.out.on (Ext.refl _ _).drew)
              rotate_left 1
              · skip
                iterate 17
                  apply Walk3.exact
                  · rfl
                  · rintro d ev w5 ⟨ec, eg, ef⟩ - - - - hst
                    obtain ⟨y0, y1, y2, y3, y4, y5⟩ := HC.out.ext hst.out.ext
                    go_simp
                    intros
                    go_simp
                    first | exact ⟨Ext.refl _ _, rfl⟩ | exact ⟨Ext.refl _ _, hst, rfl⟩
                apply Walk3.fact (fun v5 w5 => ∃ v, v5 = .tuple #[v, .int .i64 (peekM N s (o.c, o.f, o.u) (q : Int)).1] ∧ BytesAt w5 v (peekM N s (o.c, o.f, o.u) (q : Int)).2)
                · rfl
                · rintro i v5 w5 w6 - - hx - - ⟨v, h1, h2⟩
                  exact ⟨v, h1, h2.extM hx (onMaps_nope _)⟩
                · rintro d ev w5 ⟨ec, eg, ef⟩ - - - - hst
                  have HPU := Lib.hid (py_peek hst.out o.c o.f o.u q)
                  go_simp
                  intros
                  go_simp
                  refine HPU.out.mono ?_
                  rintro e w6 ⟨v, rfl, ho, h6⟩
                  exact ⟨_, rfl, h6, Lib.hid (hst.out.on h6), v, rfl, SliceAt.of_own ho⟩
                apply Walk3.fact (fun v5 w5 => ∃ v, v5 = .tuple #[v, .int .i64 (peekM N s (o.c, o.f, o.u) (q : Int)).1] ∧ BytesAt w5 v (peekM N s (o.c, o.f, o.u) (q : Int)).2)
                · rfl
                · rintro i v5 w5 w6 - - hx - - ⟨v, h1, h2⟩
                  exact ⟨v, h1, h2.extM hx (onMaps_nope _)⟩
                · rintro d ev w5 ⟨ec, eg, ef⟩ - - - - hst
                  go_simp
                  rintro v h1 h2
                  have H2 := Lib.hid h2
                  clear h2
                  go_simp
                  first | exact ⟨Ext.refl _ _, H2.out⟩ | exact ⟨Ext.refl _ _, v, rfl, H2.out⟩
                apply Walk3.fact (fun v5 w5 => BytesAt w5 v5 (peekM N s (o.c, o.f, o.u) (q : Int)).2)
                · rfl
                · rintro i v5 w5 w6 - - hx - - h2
                  exact h2.extM hx (onMaps_nope _)
                · rintro d ev w5 ⟨ec, eg, ef⟩ - - - - hst
                  go_simp
                  rintro v h1 h2
                  have H2 := Lib.hid h2
                  clear h2
                  go_simp
                  first | exact ⟨Ext.refl _ _, H2.out⟩ | exact ⟨Ext.refl _ _, hst, H2.out⟩
                apply Walk3.exact (.int .i64 (peekM N s (o.c, o.f, o.u) (q : Int)).1)
                · rfl
                · rintro d ev w5 ⟨ec, eg, ef⟩ - - - - hst
                  go_simp
                  rintro v h1 h2
                  have H2 := Lib.hid h2
                  clear h2
                  go_simp
                  exact Ext.refl _ _
                apply Walk3.fact (fun v5 w5 => BytesAt w5 v5 (peekM N s (o.c, o.f, o.u) (q : Int)).2)
                · rfl
                · rintro i v5 w5 w6 - - hx - - h2
                  exact h2.extM hx (onMaps_nope _)
                · rintro d ev w5 ⟨ec, eg, ef⟩ - - - - hst
                  go_simp
                  rintro h2
                  have H2 := Lib.hid h2
                  clear h2
                  go_simp
                  first | exact ⟨Ext.refl _ _, H2.out⟩ | exact ⟨Ext.refl _ _, hst, H2.out⟩
                apply Walk3.exact (.int .i64 (peekM N s (o.c, o.f, o.u) (q : Int)).1)
                · rfl
                · rintro d ev w5 ⟨ec, eg, ef⟩ - - - - hst
                  go_simp
                  intros
                  go_simp
                  exact Ext.refl _ _
                exact Walk3.nil
              rintro d w9 he9 - - hst9
              simp only [Finish]
              rintro va16 hb16 va222 - va203 - va221 -
              have hs14 := bytes_string (HB14.out.extM he9 (onMaps_nope _))
              have hs16 := bytes_string hb16
              unfold strOf at hs14 hs16
              clear hb16 HB14 he9 he8 hst8
              generalize peekM N s (o.c, o.f, o.u) (q : Int) = pp at *
              go_simp
              go_wp2_with fail
              go_roundw
              case rel => exact ⟨q + 1, by omega, by go_num, hst9⟩
              case measure => simp [intOf]; omega
            · have hqK' : ¬ (q : Int) < (K : Int) := by omega
              go_wp2_with fail
              go_roundw
              case rel => exact ⟨p + 1, by omega, by go_num, HPq⟩
              case measure => simp [intOf]; omega
        · have h150' : ¬ (p : Int) < 150 := by omega
          have hlt' : (p : Int) < (L.length : Int) := by omega
          go_wp2_with fail
          go_meet
          case rel => exact HP
      · have hlt' : ¬ (p : Int) < (L.length : Int) := by omega
        go_wp2_with fail
        go_meet
        case rel => exact HP
  case rest =>
  have HPe := hcut
  clear hcut HP
  go_wp2_with fail
  refine (pn_empty HPe.out).mono ?_
  rintro e w4 ⟨rfl, he4⟩
  have HP4 := Lib.hid (HPe.out.on he4)
  clear he4 HPe
  go_wp2_with fail
  refine (py_empty HP4.out).mono ?_
  rintro e w5 ⟨rfl, he5⟩
  go_wp2_with fail
  go_ret
  exact ⟨rfl, HP4.out.ext.trans he5⟩
end Go.Proofs.Ytjpkhediolahaaa
