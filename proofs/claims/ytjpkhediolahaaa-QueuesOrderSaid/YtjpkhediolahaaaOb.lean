/- The walk of QueuesOrder: it returns true. Conditions: the batches are read in memory; the three ints are ints. -/
import Derived.Test.YtjpkhediolahaaaOa
set_option linter.unusedVariables false
set_option linter.unusedSimpArgs false
set_option linter.unusedSectionVars false
set_option linter.unnecessarySimpa false
namespace Go.Proofs.Ytjpkhediolahaaa
open Go.RowKit Go.Mk Go.Maps

theorem other_bytes (w : World) : BytesAt (w.alloc (.cells #[.int .u8 111, .int .u8 116, .int .u8 104, .int .u8 101, .int .u8 114] 5 (5, 6))) (.slice (some ⟨w.heap.size, 0, none⟩) 5 5) [111, 116, 104, 101, 114] := by
  refine ⟨rfl, _, 5, rfl, Nat.le_refl _, by simp [maxLen], fun h => (by cases h), fun ad e j u hu => ?_⟩
  cases e
  have hlt : j < 5 := by
    have := (List.getElem?_eq_some_iff.1 hu).1
    simpa using this
  simp only [World.cell?, World.alloc, Addr.add]
  simp
  have : j = 0 ∨ j = 1 ∨ j = 2 ∨ j = 3 ∨ j = 4 := by omega
  rcases this with rfl | rfl | rfl | rfl | rfl <;> simpa [byteV] using hu

set_option maxHeartbeats 4000000 in
theorem order_walk (c f t : Int) (hx : wayOk (c, f, t)) (lv : Value) (rows : List (List UInt8)) (W : World) (hr : RowsAt W lv rows) :
    Calls Try.prog 3 #[lv, .agg #[.int .i64 c, .int .i64 f, .int .i64 t]] W (BoolPost W true) := by
  obtain ⟨a, cap, rfl, h1, h2, h3, -⟩ := rows_elem hr
  have hnz : rows.length ≠ 0 → ∃ ad, a = some ad := by
    intro h
    cases a with
    | none => have := h3 rfl; omega
    | some ad => exact ⟨ad, rfl⟩
  have kc := fun (w : World) (C : Array Value) (n c : Nat) => Lib.run_convert_bytes_const (P := Try.prog) w 29 5 C n c Try.underlying29 Try.underlying5
  have hi0 : Ext Nope W (W.alloc (.cells #[.int .i64 c, .int .i64 f, .int .i64 t] 23)) := (Ext.refl _ _).alloc _
  have HR := Lib.hid hr
  have HX := Lib.hid hx
  have HZ := Lib.hid hnz
  have hm : rows.length ≤ maxLen := Nat.le_trans h1 h2
  unfold maxLen at hm
  have HM := Lib.hid hm
  clear h1 h2 h3 hr hx hnz hm
  go_enter Try.func3, Try.ntmps3
  go_wp2_with fail
  refine (shown_any _).mono ?_
  rintro e w1 ⟨rfl, he1⟩
  have hs1 := he1.size
  have hc0 : w1.cell? ⟨W.heap.size, 0, none⟩ = some (.int .i64 c) := he1.cell (by simp) (fun h => h)
  have hc1 : w1.cell? ⟨W.heap.size, 1, none⟩ = some (.int .i64 f) := he1.cell (by simp) (fun h => h)
  have hc2 : w1.cell? ⟨W.heap.size, 2, none⟩ = some (.int .i64 t) := he1.cell (by simp) (fun h => h)
  have HE1 := Lib.hid he1
  have HI0 := Lib.hid hi0
  clear he1 hi0 hs1
  go_wp2_with fail
  refine (ord_new W w1 (HI0.out.trans HE1.out) HR.out).mono ?_
  rintro e w2 ⟨b, bq, bt, rfl, ho⟩
  have HO := Lib.hid ho
  clear ho hc0 hc1 hc2
  by_cases hc : c = 1
  · by_cases hf : f = 2
    · by_cases ht : t = 3
      · subst hc hf ht
        go_wp2_with fail
        go_loopw [11, 12] (fun m i wr => ∃ k : Nat, k ≤ min rows.length 80 ∧ i = .int .i64 k ∧ m = .int .i64 ((min k 64 : Nat) : Int) ∧ OrdM W b bq bt (.slice a rows.length cap) rows 0 (min k 64) wr) (fun _ i _ => 80 - (intOf i).toNat)
        case atStart => exact ⟨0, Nat.zero_le _, rfl, rfl, HO.out⟩
        case round =>
          obtain ⟨k, hk, rfl, rfl, hrk⟩ := hrel
          have HK := Lib.hid hrk
          clear hrk
          by_cases hlt : k < rows.length
          · by_cases h80 : k < 80
            · obtain ⟨ad, rfl⟩ := HZ.out (by omega)
              obtain ⟨_, _, hq0, -, -, -, hq⟩ := rows_elem (ord_rows HK.out)
              simp only [Value.slice.injEq] at hq0
              obtain ⟨rfl, -, -⟩ := hq0
              obtain ⟨x, hcx, hbx⟩ := hq ad rfl k hlt
              have HB := Lib.hid hbx
              clear hbx hq
              have hlt' : (k : Int) < (rows.length : Int) := by omega
              have h80' : (k : Int) < 80 := by omega
              go_wp2_with fail
              refine (short_any HB.out).mono ?_
              rintro e w3 ⟨v3, rfl, hb3, rfl⟩
              have HB3 := Lib.hid hb3
              clear hb3 HB
              go_wp2_with fail
              refine (ord_push HK.out hlt v3 HB3.out).mono ?_
              rintro e w4 ⟨rfl, hr4⟩
              have HR4 := Lib.hid hr4
              clear hr4 HB3
              by_cases h64 : k < 64
              · rw [if_pos h64]
                have h64' : (k : Int) < 64 := by omega
                have hmk : min k 64 = k := by omega
                have HMK := Lib.hid hmk
                clear hmk
                go_wp2_with fail
                go_roundw
                case rel => exact ⟨k + 1, by omega, by go_num, by congr 1; omega, HR4.out⟩
                case measure => simp [intOf]; omega
              · rw [if_neg h64]
                have h64' : ¬ (k : Int) < 64 := by omega
                go_wp2_with fail
                go_roundw
                case rel => exact ⟨k + 1, by omega, by go_num, by congr 1; omega, HR4.out⟩
                case measure => simp [intOf]; omega
            · have HT : Hid (k = 80) := Lib.hid (by omega)
              have h80' : ¬ (k : Int) < 80 := by omega
              have hlt' : (k : Int) < (rows.length : Int) := by omega
              obtain ⟨n, hn⟩ : ∃ n, n = min k 64 := ⟨_, rfl⟩
              have hnl : n ≤ rows.length := by omega
              have hn64 : n ≤ 64 := by omega
              rw [← hn] at HK ⊢
              clear hn
              go_wp2_with fail
              go_loopw [14] (fun i wr => ∃ p : Nat, p ≤ n ∧ i = .int .i64 p ∧ OrdM W b bq bt (.slice a rows.length cap) rows p n wr) (fun i _ => n - (intOf i).toNat)
              case atStart => exact ⟨0, Nat.zero_le _, rfl, HK.out⟩
              case round =>
                obtain ⟨p, hp, rfl, hrp⟩ := hrel
                have HP := Lib.hid hrp
                clear hrp
                by_cases hpn : p < n
                · have hpn' : (p : Int) < (n : Int) := by omega
                  go_wp2_with fail
                  refine (ord_pop HP.out hpn hnl).mono ?_
                  rintro e w5 ⟨v5, rfl, hb5, hr5⟩
                  obtain ⟨ad, rfl⟩ := HZ.out (by omega)
                  obtain ⟨_, _, hq0, -, -, -, hq⟩ := rows_elem (ord_rows hr5)
                  simp only [Value.slice.injEq] at hq0
                  obtain ⟨rfl, -, -⟩ := hq0
                  obtain ⟨x5, hcx5, hbx5⟩ := hq ad rfl p (by omega)
                  have hlt5 : (p : Int) < (rows.length : Int) := by omega
                  have hb5' : BytesAt w5 v5 (shortOf (rows.getD p [])) := by
                    rw [show rows.getD p [] = rows[p]'(by omega) from by simp [List.getD, List.getElem?_eq_getElem (show p < rows.length by omega)]]
                    exact hb5
                  have hbx5' : BytesAt w5 x5 (rows.getD p []) := by
                    rw [show rows.getD p [] = rows[p]'(by omega) from by simp [List.getD, List.getElem?_eq_getElem (show p < rows.length by omega)]]
                    exact hbx5
                  have HR5 := Lib.hid hr5
                  have HB5 := Lib.hid hbx5'
                  have HC5 := Lib.hid hb5'
                  clear hr5 hbx5 hb5 hq HP hb5' hbx5'
                  generalize rows.getD p [] = row at *
                  go_wp2_with fail
                  refine' wp_region_ext 13 121 (by kernel_rfl) rfl (by kernel_rfl) Nope (fun w1 => w1.cell? (ad.add p) = some x5 ∧ BytesAt w1 x5 row ∧ BytesAt w1 v5 (shortOf row)) ?_ _ ?_ ?_
                  · intro y hy
                    exact ⟨hy.cell hcx5 (fun h => h), HB5.out.extM hy (fun _ h => h.elim), HC5.out.extM hy (fun _ h => h.elim)⟩
                  rotate_left 1
                  · iterate 4
                      apply Walk.exact
                      · rfl
                      · rintro ev w1 ⟨ec, eg, ef⟩ hR -
                        go_simp
                        intros
                        go_simp
                        exact ⟨Ext.refl _ _, rfl⟩
                    apply Walk.exact
                    · rfl
                    · rintro ev w1 ⟨ec, eg, ef⟩ hR ⟨-, -, hv⟩
                      have hcv := bytes_string hv
                      clear hv
                      go_simp
                      intros
                      go_simp
                      exact ⟨Ext.refl _ _, rfl⟩
                    iterate 3
                      apply Walk.exact
                      · rfl
                      · rintro ev w1 ⟨ec, eg, ef⟩ hR -
                        go_simp
                        intros
                        go_simp
                        exact ⟨Ext.refl _ _, rfl⟩
                    apply Walk.exact
                    · rfl
                    · rintro ev w1 ⟨ec, eg, ef⟩ hR ⟨hcell, -, -⟩
                      go_simp
                      intros
                      go_simp
                      exact ⟨Ext.refl _ _, rfl⟩
                    apply Walk.fact (fun v w1 => BytesAt w1 v (shortOf row))
                    · rfl
                    · intro v w1 w2 _ he _ _ ho
                      exact BytesAt.extM ho he (fun _ h => h.elim)
                    · rintro ev w1 ⟨ec, eg, ef⟩ hR ⟨-, hb, -⟩
                      go_simp
                      intros
                      go_simp
                      refine (short_any hb).mono ?_
                      rintro e w6 ⟨v6, rfl, hb6, rfl⟩
                      exact ⟨v6, rfl, Ext.refl _ _, hb6⟩
                    apply Walk.exact
                    · rfl
                    · rintro ev w1 ⟨ec, eg, ef⟩ hR -
                      simp only [sees, Known.find, Op.operands, List.toList_toArray, ↓reduceIte, Option.some.injEq, Nat.reduceEqDiff, Spec.holds]
                      generalize hz : ev (Operand.tmp 105) = z
                      rintro ⟨hs, -⟩
                      have hcv := bytes_string hs
                      clear hs
                      go_simp
                      intros
                      go_simp
                      exact ⟨Ext.refl _ _, rfl⟩
                    iterate 2
                      apply Walk.exact
                      · rfl
                      · rintro ev w1 ⟨ec, eg, ef⟩ hR -
                        go_simp
                        intros
                        go_simp
                        exact ⟨Ext.refl _ _, rfl⟩
                    exact Walk.nil
                  · rintro w6 he6 -
                    have hr6 := ord_on HR5.out he6
                    have HR6 := Lib.hid hr6
                    clear hr6
                    simp only [Finish]
                    intro v6 hv6
                    go_simp
                    go_wp2
                    go_roundw
                    case rel => exact ⟨p + 1, by omega, by go_num, HR6.out⟩
                    case measure => simp [intOf]; omega
                · have hpe : p = n := by omega
                  subst hpe
                  go_wp2_with fail
                  refine (ord_done HP.out).mono ?_
                  rintro e w5 ⟨v5, rfl, hr5⟩
                  have HR5 := Lib.hid hr5
                  clear hr5 HP
                  go_wp2_with (go_at_call 12; refine (ord_len HR5.out).mono ?_; rintro e w6 ⟨rfl, hr6⟩)
                  go_ret
                  exact ⟨rfl, ord_ext hr6⟩
          · have h80' : ¬ (k : Int) < (rows.length : Int) := by omega
            obtain ⟨n, hn⟩ : ∃ n, n = min k 64 := ⟨_, rfl⟩
            have hnl : n ≤ rows.length := by omega
            have hn64 : n ≤ 64 := by omega
            rw [← hn] at HK ⊢
            clear hn
            go_wp2_with fail
            go_loopw [14] (fun i wr => ∃ p : Nat, p ≤ n ∧ i = .int .i64 p ∧ OrdM W b bq bt (.slice a rows.length cap) rows p n wr) (fun i _ => n - (intOf i).toNat)
            case atStart => exact ⟨0, Nat.zero_le _, rfl, HK.out⟩
            case round =>
              obtain ⟨p, hp, rfl, hrp⟩ := hrel
              have HP := Lib.hid hrp
              clear hrp
              by_cases hpn : p < n
              · have hpn' : (p : Int) < (n : Int) := by omega
                go_wp2_with fail
                refine (ord_pop HP.out hpn hnl).mono ?_
                rintro e w5 ⟨v5, rfl, hb5, hr5⟩
                obtain ⟨ad, rfl⟩ := HZ.out (by omega)
                obtain ⟨_, _, hq0, -, -, -, hq⟩ := rows_elem (ord_rows hr5)
                simp only [Value.slice.injEq] at hq0
                obtain ⟨rfl, -, -⟩ := hq0
                obtain ⟨x5, hcx5, hbx5⟩ := hq ad rfl p (by omega)
                have hlt5 : (p : Int) < (rows.length : Int) := by omega
                have hb5' : BytesAt w5 v5 (shortOf (rows.getD p [])) := by
                  rw [show rows.getD p [] = rows[p]'(by omega) from by simp [List.getD, List.getElem?_eq_getElem (show p < rows.length by omega)]]
                  exact hb5
                have hbx5' : BytesAt w5 x5 (rows.getD p []) := by
                  rw [show rows.getD p [] = rows[p]'(by omega) from by simp [List.getD, List.getElem?_eq_getElem (show p < rows.length by omega)]]
                  exact hbx5
                have HR5 := Lib.hid hr5
                have HB5 := Lib.hid hbx5'
                have HC5 := Lib.hid hb5'
                clear hr5 hbx5 hb5 hq HP hb5' hbx5'
                generalize rows.getD p [] = row at *
                go_wp2_with fail
                refine' wp_region_ext 13 121 (by kernel_rfl) rfl (by kernel_rfl) Nope (fun w1 => w1.cell? (ad.add p) = some x5 ∧ BytesAt w1 x5 row ∧ BytesAt w1 v5 (shortOf row)) ?_ _ ?_ ?_
                · intro y hy
                  exact ⟨hy.cell hcx5 (fun h => h), HB5.out.extM hy (fun _ h => h.elim), HC5.out.extM hy (fun _ h => h.elim)⟩
                rotate_left 1
                · iterate 4
                    apply Walk.exact
                    · rfl
                    · rintro ev w1 ⟨ec, eg, ef⟩ hR -
                      go_simp
                      intros
                      go_simp
                      exact ⟨Ext.refl _ _, rfl⟩
                  apply Walk.exact
                  · rfl
                  · rintro ev w1 ⟨ec, eg, ef⟩ hR ⟨-, -, hv⟩
                    have hcv := bytes_string hv
                    clear hv
                    go_simp
                    intros
                    go_simp
                    exact ⟨Ext.refl _ _, rfl⟩
                  iterate 3
                    apply Walk.exact
                    · rfl
                    · rintro ev w1 ⟨ec, eg, ef⟩ hR -
                      go_simp
                      intros
                      go_simp
                      exact ⟨Ext.refl _ _, rfl⟩
                  apply Walk.exact
                  · rfl
                  · rintro ev w1 ⟨ec, eg, ef⟩ hR ⟨hcell, -, -⟩
                    go_simp
                    intros
                    go_simp
                    exact ⟨Ext.refl _ _, rfl⟩
                  apply Walk.fact (fun v w1 => BytesAt w1 v (shortOf row))
                  · rfl
                  · intro v w1 w2 _ he _ _ ho
                    exact BytesAt.extM ho he (fun _ h => h.elim)
                  · rintro ev w1 ⟨ec, eg, ef⟩ hR ⟨-, hb, -⟩
                    go_simp
                    intros
                    go_simp
                    refine (short_any hb).mono ?_
                    rintro e w6 ⟨v6, rfl, hb6, rfl⟩
                    exact ⟨v6, rfl, Ext.refl _ _, hb6⟩
                  apply Walk.exact
                  · rfl
                  · rintro ev w1 ⟨ec, eg, ef⟩ hR -
                    simp only [sees, Known.find, Op.operands, List.toList_toArray, ↓reduceIte, Option.some.injEq, Nat.reduceEqDiff, Spec.holds]
                    generalize hz : ev (Operand.tmp 105) = z
                    rintro ⟨hs, -⟩
                    have hcv := bytes_string hs
                    clear hs
                    go_simp
                    intros
                    go_simp
                    exact ⟨Ext.refl _ _, rfl⟩
                  iterate 2
                    apply Walk.exact
                    · rfl
                    · rintro ev w1 ⟨ec, eg, ef⟩ hR -
                      go_simp
                      intros
                      go_simp
                      exact ⟨Ext.refl _ _, rfl⟩
                  exact Walk.nil
                · rintro w6 he6 -
                  have hr6 := ord_on HR5.out he6
                  have HR6 := Lib.hid hr6
                  clear hr6
                  simp only [Finish]
                  intro v6 hv6
                  go_simp
                  go_wp2
                  go_roundw
                  case rel => exact ⟨p + 1, by omega, by go_num, HR6.out⟩
                  case measure => simp [intOf]; omega
              · have hpe : p = n := by omega
                subst hpe
                go_wp2_with fail
                refine (ord_done HP.out).mono ?_
                rintro e w5 ⟨v5, rfl, hr5⟩
                have HR5 := Lib.hid hr5
                clear hr5 HP
                go_wp2_with (go_at_call 12; refine (ord_len HR5.out).mono ?_; rintro e w6 ⟨rfl, hr6⟩)
                go_ret
                exact ⟨rfl, ord_ext hr6⟩
      · subst hc hf
        have ht' : (t != 3) = true := by simpa using ht
        have hne : ((1 : Int), (2 : Int), t) ≠ way0 := by unfold way0; intro h; simp at h; exact ht h
        have HNE := Lib.hid hne
        clear hne
        go_wp2_with fail
        go_loopw [11, 12] (fun m i wr => ∃ k : Nat, k ≤ min rows.length 80 ∧ i = .int .i64 k ∧ m = .int .i64 ((min k 64 : Nat) : Int) ∧ OrdM W b bq bt (.slice a rows.length cap) rows 0 (min k 64) wr) (fun _ i _ => 80 - (intOf i).toNat)
        case atStart => exact ⟨0, Nat.zero_le _, rfl, rfl, HO.out⟩
        case round =>
          obtain ⟨k, hk, rfl, rfl, hrk⟩ := hrel
          have HK := Lib.hid hrk
          clear hrk
          by_cases hlt : k < rows.length
          · by_cases h80 : k < 80
            · obtain ⟨ad, rfl⟩ := HZ.out (by omega)
              obtain ⟨_, _, hq0, -, -, -, hq⟩ := rows_elem (ord_rows HK.out)
              simp only [Value.slice.injEq] at hq0
              obtain ⟨rfl, -, -⟩ := hq0
              obtain ⟨x, hcx, hbx⟩ := hq ad rfl k hlt
              have HB := Lib.hid hbx
              clear hbx hq
              have hlt' : (k : Int) < (rows.length : Int) := by omega
              have h80' : (k : Int) < 80 := by omega
              go_wp2_with fail
              refine (short_any HB.out).mono ?_
              rintro e w3 ⟨v3, rfl, hb3, rfl⟩
              have HB3 := Lib.hid hb3
              clear hb3 HB
              go_wp2_with fail
              refine (ord_push HK.out hlt v3 HB3.out).mono ?_
              rintro e w4 ⟨rfl, hr4⟩
              have HR4 := Lib.hid hr4
              clear hr4 HB3
              by_cases h64 : k < 64
              · rw [if_pos h64]
                have h64' : (k : Int) < 64 := by omega
                have hmk : min k 64 = k := by omega
                have HMK := Lib.hid hmk
                clear hmk
                go_wp2_with fail
                have hby := other_bytes w4
                have HBY := Lib.hid hby
                clear hby
                refine (ord_other (ord_on HR4.out ((Ext.refl _ _).alloc _)) 1 2 t HX.out HNE.out _ _ HBY.out (by simp)).mono ?_
                rintro e w5 ⟨⟨n5, rfl⟩, hr5⟩
                have HR5 := Lib.hid hr5
                clear hr5 HR4 HBY
                go_wp2_with fail
                go_roundw
                case rel => exact ⟨k + 1, by omega, by go_num, by congr 1; omega, HR5.out⟩
                case measure => simp [intOf]; omega
              · rw [if_neg h64]
                have h64' : ¬ (k : Int) < 64 := by omega
                go_wp2_with fail
                have hby := other_bytes w4
                have HBY := Lib.hid hby
                clear hby
                refine (ord_other (ord_on HR4.out ((Ext.refl _ _).alloc _)) 1 2 t HX.out HNE.out _ _ HBY.out (by simp)).mono ?_
                rintro e w5 ⟨⟨n5, rfl⟩, hr5⟩
                have HR5 := Lib.hid hr5
                clear hr5 HR4 HBY
                go_wp2_with fail
                go_roundw
                case rel => exact ⟨k + 1, by omega, by go_num, by congr 1; omega, HR5.out⟩
                case measure => simp [intOf]; omega
            · have HT : Hid (k = 80) := Lib.hid (by omega)
              have h80' : ¬ (k : Int) < 80 := by omega
              have hlt' : (k : Int) < (rows.length : Int) := by omega
              obtain ⟨n, hn⟩ : ∃ n, n = min k 64 := ⟨_, rfl⟩
              have hnl : n ≤ rows.length := by omega
              have hn64 : n ≤ 64 := by omega
              rw [← hn] at HK ⊢
              clear hn
              go_wp2_with fail
              go_loopw [14] (fun i wr => ∃ p : Nat, p ≤ n ∧ i = .int .i64 p ∧ OrdM W b bq bt (.slice a rows.length cap) rows p n wr) (fun i _ => n - (intOf i).toNat)
              case atStart => exact ⟨0, Nat.zero_le _, rfl, HK.out⟩
              case round =>
                obtain ⟨p, hp, rfl, hrp⟩ := hrel
                have HP := Lib.hid hrp
                clear hrp
                by_cases hpn : p < n
                · have hpn' : (p : Int) < (n : Int) := by omega
                  go_wp2_with fail
                  refine (ord_pop HP.out hpn hnl).mono ?_
                  rintro e w5 ⟨v5, rfl, hb5, hr5⟩
                  obtain ⟨ad, rfl⟩ := HZ.out (by omega)
                  obtain ⟨_, _, hq0, -, -, -, hq⟩ := rows_elem (ord_rows hr5)
                  simp only [Value.slice.injEq] at hq0
                  obtain ⟨rfl, -, -⟩ := hq0
                  obtain ⟨x5, hcx5, hbx5⟩ := hq ad rfl p (by omega)
                  have hlt5 : (p : Int) < (rows.length : Int) := by omega
                  have hb5' : BytesAt w5 v5 (shortOf (rows.getD p [])) := by
                    rw [show rows.getD p [] = rows[p]'(by omega) from by simp [List.getD, List.getElem?_eq_getElem (show p < rows.length by omega)]]
                    exact hb5
                  have hbx5' : BytesAt w5 x5 (rows.getD p []) := by
                    rw [show rows.getD p [] = rows[p]'(by omega) from by simp [List.getD, List.getElem?_eq_getElem (show p < rows.length by omega)]]
                    exact hbx5
                  have HR5 := Lib.hid hr5
                  have HB5 := Lib.hid hbx5'
                  have HC5 := Lib.hid hb5'
                  clear hr5 hbx5 hb5 hq HP hb5' hbx5'
                  generalize rows.getD p [] = row at *
                  go_wp2_with fail
                  refine' wp_region_ext 13 121 (by kernel_rfl) rfl (by kernel_rfl) Nope (fun w1 => w1.cell? (ad.add p) = some x5 ∧ BytesAt w1 x5 row ∧ BytesAt w1 v5 (shortOf row)) ?_ _ ?_ ?_
                  · intro y hy
                    exact ⟨hy.cell hcx5 (fun h => h), HB5.out.extM hy (fun _ h => h.elim), HC5.out.extM hy (fun _ h => h.elim)⟩
                  rotate_left 1
                  · iterate 4
                      apply Walk.exact
                      · rfl
                      · rintro ev w1 ⟨ec, eg, ef⟩ hR -
                        go_simp
                        intros
                        go_simp
                        exact ⟨Ext.refl _ _, rfl⟩
                    apply Walk.exact
                    · rfl
                    · rintro ev w1 ⟨ec, eg, ef⟩ hR ⟨-, -, hv⟩
                      have hcv := bytes_string hv
                      clear hv
                      go_simp
                      intros
                      go_simp
                      exact ⟨Ext.refl _ _, rfl⟩
                    iterate 3
                      apply Walk.exact
                      · rfl
                      · rintro ev w1 ⟨ec, eg, ef⟩ hR -
                        go_simp
                        intros
                        go_simp
                        exact ⟨Ext.refl _ _, rfl⟩
                    apply Walk.exact
                    · rfl
                    · rintro ev w1 ⟨ec, eg, ef⟩ hR ⟨hcell, -, -⟩
                      go_simp
                      intros
                      go_simp
                      exact ⟨Ext.refl _ _, rfl⟩
                    apply Walk.fact (fun v w1 => BytesAt w1 v (shortOf row))
                    · rfl
                    · intro v w1 w2 _ he _ _ ho
                      exact BytesAt.extM ho he (fun _ h => h.elim)
                    · rintro ev w1 ⟨ec, eg, ef⟩ hR ⟨-, hb, -⟩
                      go_simp
                      intros
                      go_simp
                      refine (short_any hb).mono ?_
                      rintro e w6 ⟨v6, rfl, hb6, rfl⟩
                      exact ⟨v6, rfl, Ext.refl _ _, hb6⟩
                    apply Walk.exact
                    · rfl
                    · rintro ev w1 ⟨ec, eg, ef⟩ hR -
                      simp only [sees, Known.find, Op.operands, List.toList_toArray, ↓reduceIte, Option.some.injEq, Nat.reduceEqDiff, Spec.holds]
                      generalize hz : ev (Operand.tmp 105) = z
                      rintro ⟨hs, -⟩
                      have hcv := bytes_string hs
                      clear hs
                      go_simp
                      intros
                      go_simp
                      exact ⟨Ext.refl _ _, rfl⟩
                    iterate 2
                      apply Walk.exact
                      · rfl
                      · rintro ev w1 ⟨ec, eg, ef⟩ hR -
                        go_simp
                        intros
                        go_simp
                        exact ⟨Ext.refl _ _, rfl⟩
                    exact Walk.nil
                  · rintro w6 he6 -
                    have hr6 := ord_on HR5.out he6
                    have HR6 := Lib.hid hr6
                    clear hr6
                    simp only [Finish]
                    intro v6 hv6
                    go_simp
                    go_wp2
                    go_roundw
                    case rel => exact ⟨p + 1, by omega, by go_num, HR6.out⟩
                    case measure => simp [intOf]; omega
                · have hpe : p = n := by omega
                  subst hpe
                  go_wp2_with fail
                  refine (ord_done HP.out).mono ?_
                  rintro e w5 ⟨v5, rfl, hr5⟩
                  have HR5 := Lib.hid hr5
                  clear hr5 HP
                  go_wp2_with (go_at_call 12; refine (ord_len HR5.out).mono ?_; rintro e w6 ⟨rfl, hr6⟩)
                  go_ret
                  exact ⟨rfl, ord_ext hr6⟩
          · have h80' : ¬ (k : Int) < (rows.length : Int) := by omega
            obtain ⟨n, hn⟩ : ∃ n, n = min k 64 := ⟨_, rfl⟩
            have hnl : n ≤ rows.length := by omega
            have hn64 : n ≤ 64 := by omega
            rw [← hn] at HK ⊢
            clear hn
            go_wp2_with fail
            go_loopw [14] (fun i wr => ∃ p : Nat, p ≤ n ∧ i = .int .i64 p ∧ OrdM W b bq bt (.slice a rows.length cap) rows p n wr) (fun i _ => n - (intOf i).toNat)
            case atStart => exact ⟨0, Nat.zero_le _, rfl, HK.out⟩
            case round =>
              obtain ⟨p, hp, rfl, hrp⟩ := hrel
              have HP := Lib.hid hrp
              clear hrp
              by_cases hpn : p < n
              · have hpn' : (p : Int) < (n : Int) := by omega
                go_wp2_with fail
                refine (ord_pop HP.out hpn hnl).mono ?_
                rintro e w5 ⟨v5, rfl, hb5, hr5⟩
                obtain ⟨ad, rfl⟩ := HZ.out (by omega)
                obtain ⟨_, _, hq0, -, -, -, hq⟩ := rows_elem (ord_rows hr5)
                simp only [Value.slice.injEq] at hq0
                obtain ⟨rfl, -, -⟩ := hq0
                obtain ⟨x5, hcx5, hbx5⟩ := hq ad rfl p (by omega)
                have hlt5 : (p : Int) < (rows.length : Int) := by omega
                have hb5' : BytesAt w5 v5 (shortOf (rows.getD p [])) := by
                  rw [show rows.getD p [] = rows[p]'(by omega) from by simp [List.getD, List.getElem?_eq_getElem (show p < rows.length by omega)]]
                  exact hb5
                have hbx5' : BytesAt w5 x5 (rows.getD p []) := by
                  rw [show rows.getD p [] = rows[p]'(by omega) from by simp [List.getD, List.getElem?_eq_getElem (show p < rows.length by omega)]]
                  exact hbx5
                have HR5 := Lib.hid hr5
                have HB5 := Lib.hid hbx5'
                have HC5 := Lib.hid hb5'
                clear hr5 hbx5 hb5 hq HP hb5' hbx5'
                generalize rows.getD p [] = row at *
                go_wp2_with fail
                refine' wp_region_ext 13 121 (by kernel_rfl) rfl (by kernel_rfl) Nope (fun w1 => w1.cell? (ad.add p) = some x5 ∧ BytesAt w1 x5 row ∧ BytesAt w1 v5 (shortOf row)) ?_ _ ?_ ?_
                · intro y hy
                  exact ⟨hy.cell hcx5 (fun h => h), HB5.out.extM hy (fun _ h => h.elim), HC5.out.extM hy (fun _ h => h.elim)⟩
                rotate_left 1
                · iterate 4
                    apply Walk.exact
                    · rfl
                    · rintro ev w1 ⟨ec, eg, ef⟩ hR -
                      go_simp
                      intros
                      go_simp
                      exact ⟨Ext.refl _ _, rfl⟩
                  apply Walk.exact
                  · rfl
                  · rintro ev w1 ⟨ec, eg, ef⟩ hR ⟨-, -, hv⟩
                    have hcv := bytes_string hv
                    clear hv
                    go_simp
                    intros
                    go_simp
                    exact ⟨Ext.refl _ _, rfl⟩
                  iterate 3
                    apply Walk.exact
                    · rfl
                    · rintro ev w1 ⟨ec, eg, ef⟩ hR -
                      go_simp
                      intros
                      go_simp
                      exact ⟨Ext.refl _ _, rfl⟩
                  apply Walk.exact
                  · rfl
                  · rintro ev w1 ⟨ec, eg, ef⟩ hR ⟨hcell, -, -⟩
                    go_simp
                    intros
                    go_simp
                    exact ⟨Ext.refl _ _, rfl⟩
                  apply Walk.fact (fun v w1 => BytesAt w1 v (shortOf row))
                  · rfl
                  · intro v w1 w2 _ he _ _ ho
                    exact BytesAt.extM ho he (fun _ h => h.elim)
                  · rintro ev w1 ⟨ec, eg, ef⟩ hR ⟨-, hb, -⟩
                    go_simp
                    intros
                    go_simp
                    refine (short_any hb).mono ?_
                    rintro e w6 ⟨v6, rfl, hb6, rfl⟩
                    exact ⟨v6, rfl, Ext.refl _ _, hb6⟩
                  apply Walk.exact
                  · rfl
                  · rintro ev w1 ⟨ec, eg, ef⟩ hR -
                    simp only [sees, Known.find, Op.operands, List.toList_toArray, ↓reduceIte, Option.some.injEq, Nat.reduceEqDiff, Spec.holds]
                    generalize hz : ev (Operand.tmp 105) = z
                    rintro ⟨hs, -⟩
                    have hcv := bytes_string hs
                    clear hs
                    go_simp
                    intros
                    go_simp
                    exact ⟨Ext.refl _ _, rfl⟩
                  iterate 2
                    apply Walk.exact
                    · rfl
                    · rintro ev w1 ⟨ec, eg, ef⟩ hR -
                      go_simp
                      intros
                      go_simp
                      exact ⟨Ext.refl _ _, rfl⟩
                  exact Walk.nil
                · rintro w6 he6 -
                  have hr6 := ord_on HR5.out he6
                  have HR6 := Lib.hid hr6
                  clear hr6
                  simp only [Finish]
                  intro v6 hv6
                  go_simp
                  go_wp2
                  go_roundw
                  case rel => exact ⟨p + 1, by omega, by go_num, HR6.out⟩
                  case measure => simp [intOf]; omega
              · have hpe : p = n := by omega
                subst hpe
                go_wp2_with fail
                refine (ord_done HP.out).mono ?_
                rintro e w5 ⟨v5, rfl, hr5⟩
                have HR5 := Lib.hid hr5
                clear hr5 HP
                go_wp2_with (go_at_call 12; refine (ord_len HR5.out).mono ?_; rintro e w6 ⟨rfl, hr6⟩)
                go_ret
                exact ⟨rfl, ord_ext hr6⟩
    · subst hc
      have hne : ((1 : Int), f, t) ≠ way0 := by unfold way0; intro h; simp at h; exact hf h.1
      have HNE := Lib.hid hne
      clear hne
      go_wp2_with fail
      go_loopw [11, 12] (fun m i wr => ∃ k : Nat, k ≤ min rows.length 80 ∧ i = .int .i64 k ∧ m = .int .i64 ((min k 64 : Nat) : Int) ∧ OrdM W b bq bt (.slice a rows.length cap) rows 0 (min k 64) wr) (fun _ i _ => 80 - (intOf i).toNat)
      case atStart => exact ⟨0, Nat.zero_le _, rfl, rfl, HO.out⟩
      case round =>
        obtain ⟨k, hk, rfl, rfl, hrk⟩ := hrel
        have HK := Lib.hid hrk
        clear hrk
        by_cases hlt : k < rows.length
        · by_cases h80 : k < 80
          · obtain ⟨ad, rfl⟩ := HZ.out (by omega)
            obtain ⟨_, _, hq0, -, -, -, hq⟩ := rows_elem (ord_rows HK.out)
            simp only [Value.slice.injEq] at hq0
            obtain ⟨rfl, -, -⟩ := hq0
            obtain ⟨x, hcx, hbx⟩ := hq ad rfl k hlt
            have HB := Lib.hid hbx
            clear hbx hq
            have hlt' : (k : Int) < (rows.length : Int) := by omega
            have h80' : (k : Int) < 80 := by omega
            go_wp2_with fail
            refine (short_any HB.out).mono ?_
            rintro e w3 ⟨v3, rfl, hb3, rfl⟩
            have HB3 := Lib.hid hb3
            clear hb3 HB
            go_wp2_with fail
            refine (ord_push HK.out hlt v3 HB3.out).mono ?_
            rintro e w4 ⟨rfl, hr4⟩
            have HR4 := Lib.hid hr4
            clear hr4 HB3
            by_cases h64 : k < 64
            · rw [if_pos h64]
              have h64' : (k : Int) < 64 := by omega
              have hmk : min k 64 = k := by omega
              have HMK := Lib.hid hmk
              clear hmk
              go_wp2_with fail
              have hby := other_bytes w4
              have HBY := Lib.hid hby
              clear hby
              refine (ord_other (ord_on HR4.out ((Ext.refl _ _).alloc _)) 1 f t HX.out HNE.out _ _ HBY.out (by simp)).mono ?_
              rintro e w5 ⟨⟨n5, rfl⟩, hr5⟩
              have HR5 := Lib.hid hr5
              clear hr5 HR4 HBY
              go_wp2_with fail
              go_roundw
              case rel => exact ⟨k + 1, by omega, by go_num, by congr 1; omega, HR5.out⟩
              case measure => simp [intOf]; omega
            · rw [if_neg h64]
              have h64' : ¬ (k : Int) < 64 := by omega
              go_wp2_with fail
              have hby := other_bytes w4
              have HBY := Lib.hid hby
              clear hby
              refine (ord_other (ord_on HR4.out ((Ext.refl _ _).alloc _)) 1 f t HX.out HNE.out _ _ HBY.out (by simp)).mono ?_
              rintro e w5 ⟨⟨n5, rfl⟩, hr5⟩
              have HR5 := Lib.hid hr5
              clear hr5 HR4 HBY
              go_wp2_with fail
              go_roundw
              case rel => exact ⟨k + 1, by omega, by go_num, by congr 1; omega, HR5.out⟩
              case measure => simp [intOf]; omega
          · have HT : Hid (k = 80) := Lib.hid (by omega)
            have h80' : ¬ (k : Int) < 80 := by omega
            have hlt' : (k : Int) < (rows.length : Int) := by omega
            obtain ⟨n, hn⟩ : ∃ n, n = min k 64 := ⟨_, rfl⟩
            have hnl : n ≤ rows.length := by omega
            have hn64 : n ≤ 64 := by omega
            rw [← hn] at HK ⊢
            clear hn
            go_wp2_with fail
            go_loopw [14] (fun i wr => ∃ p : Nat, p ≤ n ∧ i = .int .i64 p ∧ OrdM W b bq bt (.slice a rows.length cap) rows p n wr) (fun i _ => n - (intOf i).toNat)
            case atStart => exact ⟨0, Nat.zero_le _, rfl, HK.out⟩
            case round =>
              obtain ⟨p, hp, rfl, hrp⟩ := hrel
              have HP := Lib.hid hrp
              clear hrp
              by_cases hpn : p < n
              · have hpn' : (p : Int) < (n : Int) := by omega
                go_wp2_with fail
                refine (ord_pop HP.out hpn hnl).mono ?_
                rintro e w5 ⟨v5, rfl, hb5, hr5⟩
                obtain ⟨ad, rfl⟩ := HZ.out (by omega)
                obtain ⟨_, _, hq0, -, -, -, hq⟩ := rows_elem (ord_rows hr5)
                simp only [Value.slice.injEq] at hq0
                obtain ⟨rfl, -, -⟩ := hq0
                obtain ⟨x5, hcx5, hbx5⟩ := hq ad rfl p (by omega)
                have hlt5 : (p : Int) < (rows.length : Int) := by omega
                have hb5' : BytesAt w5 v5 (shortOf (rows.getD p [])) := by
                  rw [show rows.getD p [] = rows[p]'(by omega) from by simp [List.getD, List.getElem?_eq_getElem (show p < rows.length by omega)]]
                  exact hb5
                have hbx5' : BytesAt w5 x5 (rows.getD p []) := by
                  rw [show rows.getD p [] = rows[p]'(by omega) from by simp [List.getD, List.getElem?_eq_getElem (show p < rows.length by omega)]]
                  exact hbx5
                have HR5 := Lib.hid hr5
                have HB5 := Lib.hid hbx5'
                have HC5 := Lib.hid hb5'
                clear hr5 hbx5 hb5 hq HP hb5' hbx5'
                generalize rows.getD p [] = row at *
                go_wp2_with fail
                refine' wp_region_ext 13 121 (by kernel_rfl) rfl (by kernel_rfl) Nope (fun w1 => w1.cell? (ad.add p) = some x5 ∧ BytesAt w1 x5 row ∧ BytesAt w1 v5 (shortOf row)) ?_ _ ?_ ?_
                · intro y hy
                  exact ⟨hy.cell hcx5 (fun h => h), HB5.out.extM hy (fun _ h => h.elim), HC5.out.extM hy (fun _ h => h.elim)⟩
                rotate_left 1
                · iterate 4
                    apply Walk.exact
                    · rfl
                    · rintro ev w1 ⟨ec, eg, ef⟩ hR -
                      go_simp
                      intros
                      go_simp
                      exact ⟨Ext.refl _ _, rfl⟩
                  apply Walk.exact
                  · rfl
                  · rintro ev w1 ⟨ec, eg, ef⟩ hR ⟨-, -, hv⟩
                    have hcv := bytes_string hv
                    clear hv
                    go_simp
                    intros
                    go_simp
                    exact ⟨Ext.refl _ _, rfl⟩
                  iterate 3
                    apply Walk.exact
                    · rfl
                    · rintro ev w1 ⟨ec, eg, ef⟩ hR -
                      go_simp
                      intros
                      go_simp
                      exact ⟨Ext.refl _ _, rfl⟩
                  apply Walk.exact
                  · rfl
                  · rintro ev w1 ⟨ec, eg, ef⟩ hR ⟨hcell, -, -⟩
                    go_simp
                    intros
                    go_simp
                    exact ⟨Ext.refl _ _, rfl⟩
                  apply Walk.fact (fun v w1 => BytesAt w1 v (shortOf row))
                  · rfl
                  · intro v w1 w2 _ he _ _ ho
                    exact BytesAt.extM ho he (fun _ h => h.elim)
                  · rintro ev w1 ⟨ec, eg, ef⟩ hR ⟨-, hb, -⟩
                    go_simp
                    intros
                    go_simp
                    refine (short_any hb).mono ?_
                    rintro e w6 ⟨v6, rfl, hb6, rfl⟩
                    exact ⟨v6, rfl, Ext.refl _ _, hb6⟩
                  apply Walk.exact
                  · rfl
                  · rintro ev w1 ⟨ec, eg, ef⟩ hR -
                    simp only [sees, Known.find, Op.operands, List.toList_toArray, ↓reduceIte, Option.some.injEq, Nat.reduceEqDiff, Spec.holds]
                    generalize hz : ev (Operand.tmp 105) = z
                    rintro ⟨hs, -⟩
                    have hcv := bytes_string hs
                    clear hs
                    go_simp
                    intros
                    go_simp
                    exact ⟨Ext.refl _ _, rfl⟩
                  iterate 2
                    apply Walk.exact
                    · rfl
                    · rintro ev w1 ⟨ec, eg, ef⟩ hR -
                      go_simp
                      intros
                      go_simp
                      exact ⟨Ext.refl _ _, rfl⟩
                  exact Walk.nil
                · rintro w6 he6 -
                  have hr6 := ord_on HR5.out he6
                  have HR6 := Lib.hid hr6
                  clear hr6
                  simp only [Finish]
                  intro v6 hv6
                  go_simp
                  go_wp2
                  go_roundw
                  case rel => exact ⟨p + 1, by omega, by go_num, HR6.out⟩
                  case measure => simp [intOf]; omega
              · have hpe : p = n := by omega
                subst hpe
                go_wp2_with fail
                refine (ord_done HP.out).mono ?_
                rintro e w5 ⟨v5, rfl, hr5⟩
                have HR5 := Lib.hid hr5
                clear hr5 HP
                go_wp2_with (go_at_call 12; refine (ord_len HR5.out).mono ?_; rintro e w6 ⟨rfl, hr6⟩)
                go_ret
                exact ⟨rfl, ord_ext hr6⟩
        · have h80' : ¬ (k : Int) < (rows.length : Int) := by omega
          obtain ⟨n, hn⟩ : ∃ n, n = min k 64 := ⟨_, rfl⟩
          have hnl : n ≤ rows.length := by omega
          have hn64 : n ≤ 64 := by omega
          rw [← hn] at HK ⊢
          clear hn
          go_wp2_with fail
          go_loopw [14] (fun i wr => ∃ p : Nat, p ≤ n ∧ i = .int .i64 p ∧ OrdM W b bq bt (.slice a rows.length cap) rows p n wr) (fun i _ => n - (intOf i).toNat)
          case atStart => exact ⟨0, Nat.zero_le _, rfl, HK.out⟩
          case round =>
            obtain ⟨p, hp, rfl, hrp⟩ := hrel
            have HP := Lib.hid hrp
            clear hrp
            by_cases hpn : p < n
            · have hpn' : (p : Int) < (n : Int) := by omega
              go_wp2_with fail
              refine (ord_pop HP.out hpn hnl).mono ?_
              rintro e w5 ⟨v5, rfl, hb5, hr5⟩
              obtain ⟨ad, rfl⟩ := HZ.out (by omega)
              obtain ⟨_, _, hq0, -, -, -, hq⟩ := rows_elem (ord_rows hr5)
              simp only [Value.slice.injEq] at hq0
              obtain ⟨rfl, -, -⟩ := hq0
              obtain ⟨x5, hcx5, hbx5⟩ := hq ad rfl p (by omega)
              have hlt5 : (p : Int) < (rows.length : Int) := by omega
              have hb5' : BytesAt w5 v5 (shortOf (rows.getD p [])) := by
                rw [show rows.getD p [] = rows[p]'(by omega) from by simp [List.getD, List.getElem?_eq_getElem (show p < rows.length by omega)]]
                exact hb5
              have hbx5' : BytesAt w5 x5 (rows.getD p []) := by
                rw [show rows.getD p [] = rows[p]'(by omega) from by simp [List.getD, List.getElem?_eq_getElem (show p < rows.length by omega)]]
                exact hbx5
              have HR5 := Lib.hid hr5
              have HB5 := Lib.hid hbx5'
              have HC5 := Lib.hid hb5'
              clear hr5 hbx5 hb5 hq HP hb5' hbx5'
              generalize rows.getD p [] = row at *
              go_wp2_with fail
              refine' wp_region_ext 13 121 (by kernel_rfl) rfl (by kernel_rfl) Nope (fun w1 => w1.cell? (ad.add p) = some x5 ∧ BytesAt w1 x5 row ∧ BytesAt w1 v5 (shortOf row)) ?_ _ ?_ ?_
              · intro y hy
                exact ⟨hy.cell hcx5 (fun h => h), HB5.out.extM hy (fun _ h => h.elim), HC5.out.extM hy (fun _ h => h.elim)⟩
              rotate_left 1
              · iterate 4
                  apply Walk.exact
                  · rfl
                  · rintro ev w1 ⟨ec, eg, ef⟩ hR -
                    go_simp
                    intros
                    go_simp
                    exact ⟨Ext.refl _ _, rfl⟩
                apply Walk.exact
                · rfl
                · rintro ev w1 ⟨ec, eg, ef⟩ hR ⟨-, -, hv⟩
                  have hcv := bytes_string hv
                  clear hv
                  go_simp
                  intros
                  go_simp
                  exact ⟨Ext.refl _ _, rfl⟩
                iterate 3
                  apply Walk.exact
                  · rfl
                  · rintro ev w1 ⟨ec, eg, ef⟩ hR -
                    go_simp
                    intros
                    go_simp
                    exact ⟨Ext.refl _ _, rfl⟩
                apply Walk.exact
                · rfl
                · rintro ev w1 ⟨ec, eg, ef⟩ hR ⟨hcell, -, -⟩
                  go_simp
                  intros
                  go_simp
                  exact ⟨Ext.refl _ _, rfl⟩
                apply Walk.fact (fun v w1 => BytesAt w1 v (shortOf row))
                · rfl
                · intro v w1 w2 _ he _ _ ho
                  exact BytesAt.extM ho he (fun _ h => h.elim)
                · rintro ev w1 ⟨ec, eg, ef⟩ hR ⟨-, hb, -⟩
                  go_simp
                  intros
                  go_simp
                  refine (short_any hb).mono ?_
                  rintro e w6 ⟨v6, rfl, hb6, rfl⟩
                  exact ⟨v6, rfl, Ext.refl _ _, hb6⟩
                apply Walk.exact
                · rfl
                · rintro ev w1 ⟨ec, eg, ef⟩ hR -
                  simp only [sees, Known.find, Op.operands, List.toList_toArray, ↓reduceIte, Option.some.injEq, Nat.reduceEqDiff, Spec.holds]
                  generalize hz : ev (Operand.tmp 105) = z
                  rintro ⟨hs, -⟩
                  have hcv := bytes_string hs
                  clear hs
                  go_simp
                  intros
                  go_simp
                  exact ⟨Ext.refl _ _, rfl⟩
                iterate 2
                  apply Walk.exact
                  · rfl
                  · rintro ev w1 ⟨ec, eg, ef⟩ hR -
                    go_simp
                    intros
                    go_simp
                    exact ⟨Ext.refl _ _, rfl⟩
                exact Walk.nil
              · rintro w6 he6 -
                have hr6 := ord_on HR5.out he6
                have HR6 := Lib.hid hr6
                clear hr6
                simp only [Finish]
                intro v6 hv6
                go_simp
                go_wp2
                go_roundw
                case rel => exact ⟨p + 1, by omega, by go_num, HR6.out⟩
                case measure => simp [intOf]; omega
            · have hpe : p = n := by omega
              subst hpe
              go_wp2_with fail
              refine (ord_done HP.out).mono ?_
              rintro e w5 ⟨v5, rfl, hr5⟩
              have HR5 := Lib.hid hr5
              clear hr5 HP
              go_wp2_with (go_at_call 12; refine (ord_len HR5.out).mono ?_; rintro e w6 ⟨rfl, hr6⟩)
              go_ret
              exact ⟨rfl, ord_ext hr6⟩
  · have hne : (c, f, t) ≠ way0 := by unfold way0; intro h; simp at h; exact hc h.1
    have HNE := Lib.hid hne
    clear hne
    go_wp2_with fail
    go_loopw [11, 12] (fun m i wr => ∃ k : Nat, k ≤ min rows.length 80 ∧ i = .int .i64 k ∧ m = .int .i64 ((min k 64 : Nat) : Int) ∧ OrdM W b bq bt (.slice a rows.length cap) rows 0 (min k 64) wr) (fun _ i _ => 80 - (intOf i).toNat)
    case atStart => exact ⟨0, Nat.zero_le _, rfl, rfl, HO.out⟩
    case round =>
      obtain ⟨k, hk, rfl, rfl, hrk⟩ := hrel
      have HK := Lib.hid hrk
      clear hrk
      by_cases hlt : k < rows.length
      · by_cases h80 : k < 80
        · obtain ⟨ad, rfl⟩ := HZ.out (by omega)
          obtain ⟨_, _, hq0, -, -, -, hq⟩ := rows_elem (ord_rows HK.out)
          simp only [Value.slice.injEq] at hq0
          obtain ⟨rfl, -, -⟩ := hq0
          obtain ⟨x, hcx, hbx⟩ := hq ad rfl k hlt
          have HB := Lib.hid hbx
          clear hbx hq
          have hlt' : (k : Int) < (rows.length : Int) := by omega
          have h80' : (k : Int) < 80 := by omega
          go_wp2_with fail
          refine (short_any HB.out).mono ?_
          rintro e w3 ⟨v3, rfl, hb3, rfl⟩
          have HB3 := Lib.hid hb3
          clear hb3 HB
          go_wp2_with fail
          refine (ord_push HK.out hlt v3 HB3.out).mono ?_
          rintro e w4 ⟨rfl, hr4⟩
          have HR4 := Lib.hid hr4
          clear hr4 HB3
          by_cases h64 : k < 64
          · rw [if_pos h64]
            have h64' : (k : Int) < 64 := by omega
            have hmk : min k 64 = k := by omega
            have HMK := Lib.hid hmk
            clear hmk
            go_wp2_with fail
            have hby := other_bytes w4
            have HBY := Lib.hid hby
            clear hby
            refine (ord_other (ord_on HR4.out ((Ext.refl _ _).alloc _)) c f t HX.out HNE.out _ _ HBY.out (by simp)).mono ?_
            rintro e w5 ⟨⟨n5, rfl⟩, hr5⟩
            have HR5 := Lib.hid hr5
            clear hr5 HR4 HBY
            go_wp2_with fail
            go_roundw
            case rel => exact ⟨k + 1, by omega, by go_num, by congr 1; omega, HR5.out⟩
            case measure => simp [intOf]; omega
          · rw [if_neg h64]
            have h64' : ¬ (k : Int) < 64 := by omega
            go_wp2_with fail
            have hby := other_bytes w4
            have HBY := Lib.hid hby
            clear hby
            refine (ord_other (ord_on HR4.out ((Ext.refl _ _).alloc _)) c f t HX.out HNE.out _ _ HBY.out (by simp)).mono ?_
            rintro e w5 ⟨⟨n5, rfl⟩, hr5⟩
            have HR5 := Lib.hid hr5
            clear hr5 HR4 HBY
            go_wp2_with fail
            go_roundw
            case rel => exact ⟨k + 1, by omega, by go_num, by congr 1; omega, HR5.out⟩
            case measure => simp [intOf]; omega
        · have HT : Hid (k = 80) := Lib.hid (by omega)
          have h80' : ¬ (k : Int) < 80 := by omega
          have hlt' : (k : Int) < (rows.length : Int) := by omega
          obtain ⟨n, hn⟩ : ∃ n, n = min k 64 := ⟨_, rfl⟩
          have hnl : n ≤ rows.length := by omega
          have hn64 : n ≤ 64 := by omega
          rw [← hn] at HK ⊢
          clear hn
          go_wp2_with fail
          go_loopw [14] (fun i wr => ∃ p : Nat, p ≤ n ∧ i = .int .i64 p ∧ OrdM W b bq bt (.slice a rows.length cap) rows p n wr) (fun i _ => n - (intOf i).toNat)
          case atStart => exact ⟨0, Nat.zero_le _, rfl, HK.out⟩
          case round =>
            obtain ⟨p, hp, rfl, hrp⟩ := hrel
            have HP := Lib.hid hrp
            clear hrp
            by_cases hpn : p < n
            · have hpn' : (p : Int) < (n : Int) := by omega
              go_wp2_with fail
              refine (ord_pop HP.out hpn hnl).mono ?_
              rintro e w5 ⟨v5, rfl, hb5, hr5⟩
              obtain ⟨ad, rfl⟩ := HZ.out (by omega)
              obtain ⟨_, _, hq0, -, -, -, hq⟩ := rows_elem (ord_rows hr5)
              simp only [Value.slice.injEq] at hq0
              obtain ⟨rfl, -, -⟩ := hq0
              obtain ⟨x5, hcx5, hbx5⟩ := hq ad rfl p (by omega)
              have hlt5 : (p : Int) < (rows.length : Int) := by omega
              have hb5' : BytesAt w5 v5 (shortOf (rows.getD p [])) := by
                rw [show rows.getD p [] = rows[p]'(by omega) from by simp [List.getD, List.getElem?_eq_getElem (show p < rows.length by omega)]]
                exact hb5
              have hbx5' : BytesAt w5 x5 (rows.getD p []) := by
                rw [show rows.getD p [] = rows[p]'(by omega) from by simp [List.getD, List.getElem?_eq_getElem (show p < rows.length by omega)]]
                exact hbx5
              have HR5 := Lib.hid hr5
              have HB5 := Lib.hid hbx5'
              have HC5 := Lib.hid hb5'
              clear hr5 hbx5 hb5 hq HP hb5' hbx5'
              generalize rows.getD p [] = row at *
              go_wp2_with fail
              refine' wp_region_ext 13 121 (by kernel_rfl) rfl (by kernel_rfl) Nope (fun w1 => w1.cell? (ad.add p) = some x5 ∧ BytesAt w1 x5 row ∧ BytesAt w1 v5 (shortOf row)) ?_ _ ?_ ?_
              · intro y hy
                exact ⟨hy.cell hcx5 (fun h => h), HB5.out.extM hy (fun _ h => h.elim), HC5.out.extM hy (fun _ h => h.elim)⟩
              rotate_left 1
              · iterate 4
                  apply Walk.exact
                  · rfl
                  · rintro ev w1 ⟨ec, eg, ef⟩ hR -
                    go_simp
                    intros
                    go_simp
                    exact ⟨Ext.refl _ _, rfl⟩
                apply Walk.exact
                · rfl
                · rintro ev w1 ⟨ec, eg, ef⟩ hR ⟨-, -, hv⟩
                  have hcv := bytes_string hv
                  clear hv
                  go_simp
                  intros
                  go_simp
                  exact ⟨Ext.refl _ _, rfl⟩
                iterate 3
                  apply Walk.exact
                  · rfl
                  · rintro ev w1 ⟨ec, eg, ef⟩ hR -
                    go_simp
                    intros
                    go_simp
                    exact ⟨Ext.refl _ _, rfl⟩
                apply Walk.exact
                · rfl
                · rintro ev w1 ⟨ec, eg, ef⟩ hR ⟨hcell, -, -⟩
                  go_simp
                  intros
                  go_simp
                  exact ⟨Ext.refl _ _, rfl⟩
                apply Walk.fact (fun v w1 => BytesAt w1 v (shortOf row))
                · rfl
                · intro v w1 w2 _ he _ _ ho
                  exact BytesAt.extM ho he (fun _ h => h.elim)
                · rintro ev w1 ⟨ec, eg, ef⟩ hR ⟨-, hb, -⟩
                  go_simp
                  intros
                  go_simp
                  refine (short_any hb).mono ?_
                  rintro e w6 ⟨v6, rfl, hb6, rfl⟩
                  exact ⟨v6, rfl, Ext.refl _ _, hb6⟩
                apply Walk.exact
                · rfl
                · rintro ev w1 ⟨ec, eg, ef⟩ hR -
                  simp only [sees, Known.find, Op.operands, List.toList_toArray, ↓reduceIte, Option.some.injEq, Nat.reduceEqDiff, Spec.holds]
                  generalize hz : ev (Operand.tmp 105) = z
                  rintro ⟨hs, -⟩
                  have hcv := bytes_string hs
                  clear hs
                  go_simp
                  intros
                  go_simp
                  exact ⟨Ext.refl _ _, rfl⟩
                iterate 2
                  apply Walk.exact
                  · rfl
                  · rintro ev w1 ⟨ec, eg, ef⟩ hR -
                    go_simp
                    intros
                    go_simp
                    exact ⟨Ext.refl _ _, rfl⟩
                exact Walk.nil
              · rintro w6 he6 -
                have hr6 := ord_on HR5.out he6
                have HR6 := Lib.hid hr6
                clear hr6
                simp only [Finish]
                intro v6 hv6
                go_simp
                go_wp2
                go_roundw
                case rel => exact ⟨p + 1, by omega, by go_num, HR6.out⟩
                case measure => simp [intOf]; omega
            · have hpe : p = n := by omega
              subst hpe
              go_wp2_with fail
              refine (ord_done HP.out).mono ?_
              rintro e w5 ⟨v5, rfl, hr5⟩
              have HR5 := Lib.hid hr5
              clear hr5 HP
              go_wp2_with (go_at_call 12; refine (ord_len HR5.out).mono ?_; rintro e w6 ⟨rfl, hr6⟩)
              go_ret
              exact ⟨rfl, ord_ext hr6⟩
      · have h80' : ¬ (k : Int) < (rows.length : Int) := by omega
        obtain ⟨n, hn⟩ : ∃ n, n = min k 64 := ⟨_, rfl⟩
        have hnl : n ≤ rows.length := by omega
        have hn64 : n ≤ 64 := by omega
        rw [← hn] at HK ⊢
        clear hn
        go_wp2_with fail
        go_loopw [14] (fun i wr => ∃ p : Nat, p ≤ n ∧ i = .int .i64 p ∧ OrdM W b bq bt (.slice a rows.length cap) rows p n wr) (fun i _ => n - (intOf i).toNat)
        case atStart => exact ⟨0, Nat.zero_le _, rfl, HK.out⟩
        case round =>
          obtain ⟨p, hp, rfl, hrp⟩ := hrel
          have HP := Lib.hid hrp
          clear hrp
          by_cases hpn : p < n
          · have hpn' : (p : Int) < (n : Int) := by omega
            go_wp2_with fail
            refine (ord_pop HP.out hpn hnl).mono ?_
            rintro e w5 ⟨v5, rfl, hb5, hr5⟩
            obtain ⟨ad, rfl⟩ := HZ.out (by omega)
            obtain ⟨_, _, hq0, -, -, -, hq⟩ := rows_elem (ord_rows hr5)
            simp only [Value.slice.injEq] at hq0
            obtain ⟨rfl, -, -⟩ := hq0
            obtain ⟨x5, hcx5, hbx5⟩ := hq ad rfl p (by omega)
            have hlt5 : (p : Int) < (rows.length : Int) := by omega
            have hb5' : BytesAt w5 v5 (shortOf (rows.getD p [])) := by
              rw [show rows.getD p [] = rows[p]'(by omega) from by simp [List.getD, List.getElem?_eq_getElem (show p < rows.length by omega)]]
              exact hb5
            have hbx5' : BytesAt w5 x5 (rows.getD p []) := by
              rw [show rows.getD p [] = rows[p]'(by omega) from by simp [List.getD, List.getElem?_eq_getElem (show p < rows.length by omega)]]
              exact hbx5
            have HR5 := Lib.hid hr5
            have HB5 := Lib.hid hbx5'
            have HC5 := Lib.hid hb5'
            clear hr5 hbx5 hb5 hq HP hb5' hbx5'
            generalize rows.getD p [] = row at *
            go_wp2_with fail
            refine' wp_region_ext 13 121 (by kernel_rfl) rfl (by kernel_rfl) Nope (fun w1 => w1.cell? (ad.add p) = some x5 ∧ BytesAt w1 x5 row ∧ BytesAt w1 v5 (shortOf row)) ?_ _ ?_ ?_
            · intro y hy
              exact ⟨hy.cell hcx5 (fun h => h), HB5.out.extM hy (fun _ h => h.elim), HC5.out.extM hy (fun _ h => h.elim)⟩
            rotate_left 1
            · iterate 4
                apply Walk.exact
                · rfl
                · rintro ev w1 ⟨ec, eg, ef⟩ hR -
                  go_simp
                  intros
                  go_simp
                  exact ⟨Ext.refl _ _, rfl⟩
              apply Walk.exact
              · rfl
              · rintro ev w1 ⟨ec, eg, ef⟩ hR ⟨-, -, hv⟩
                have hcv := bytes_string hv
                clear hv
                go_simp
                intros
                go_simp
                exact ⟨Ext.refl _ _, rfl⟩
              iterate 3
                apply Walk.exact
                · rfl
                · rintro ev w1 ⟨ec, eg, ef⟩ hR -
                  go_simp
                  intros
                  go_simp
                  exact ⟨Ext.refl _ _, rfl⟩
              apply Walk.exact
              · rfl
              · rintro ev w1 ⟨ec, eg, ef⟩ hR ⟨hcell, -, -⟩
                go_simp
                intros
                go_simp
                exact ⟨Ext.refl _ _, rfl⟩
              apply Walk.fact (fun v w1 => BytesAt w1 v (shortOf row))
              · rfl
              · intro v w1 w2 _ he _ _ ho
                exact BytesAt.extM ho he (fun _ h => h.elim)
              · rintro ev w1 ⟨ec, eg, ef⟩ hR ⟨-, hb, -⟩
                go_simp
                intros
                go_simp
                refine (short_any hb).mono ?_
                rintro e w6 ⟨v6, rfl, hb6, rfl⟩
                exact ⟨v6, rfl, Ext.refl _ _, hb6⟩
              apply Walk.exact
              · rfl
              · rintro ev w1 ⟨ec, eg, ef⟩ hR -
                simp only [sees, Known.find, Op.operands, List.toList_toArray, ↓reduceIte, Option.some.injEq, Nat.reduceEqDiff, Spec.holds]
                generalize hz : ev (Operand.tmp 105) = z
                rintro ⟨hs, -⟩
                have hcv := bytes_string hs
                clear hs
                go_simp
                intros
                go_simp
                exact ⟨Ext.refl _ _, rfl⟩
              iterate 2
                apply Walk.exact
                · rfl
                · rintro ev w1 ⟨ec, eg, ef⟩ hR -
                  go_simp
                  intros
                  go_simp
                  exact ⟨Ext.refl _ _, rfl⟩
              exact Walk.nil
            · rintro w6 he6 -
              have hr6 := ord_on HR5.out he6
              have HR6 := Lib.hid hr6
              clear hr6
              simp only [Finish]
              intro v6 hv6
              go_simp
              go_wp2
              go_roundw
              case rel => exact ⟨p + 1, by omega, by go_num, HR6.out⟩
              case measure => simp [intOf]; omega
          · have hpe : p = n := by omega
            subst hpe
            go_wp2_with fail
            refine (ord_done HP.out).mono ?_
            rintro e w5 ⟨v5, rfl, hr5⟩
            have HR5 := Lib.hid hr5
            clear hr5 HP
            go_wp2_with (go_at_call 12; refine (ord_len HR5.out).mono ?_; rintro e w6 ⟨rfl, hr6⟩)
            go_ret
            exact ⟨rfl, ord_ext hr6⟩
end Go.Proofs.Ytjpkhediolahaaa
