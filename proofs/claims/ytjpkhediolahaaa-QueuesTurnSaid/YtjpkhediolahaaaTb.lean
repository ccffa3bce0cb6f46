/- The walk of QueuesTurn: it returns true. Conditions: the batches are read in memory; the ints are ints. -/
import Derived.Test.YtjpkhediolahaaaTd
import Derived.Deep.DeepCutAuto
import Derived.Deep.CutBlock
import Derived.Test.YtjpkhediolahaaaRegs
set_option linter.unusedVariables false
set_option linter.unusedSimpArgs false
set_option linter.unusedSectionVars false
set_option linter.unnecessarySimpa false
namespace Go.Proofs.Ytjpkhediolahaaa
open Go.RowKit Go.Mk Go.Maps

theorem Keeps.refl (w : World) : Keeps w w := ⟨fun _ _ h => h, fun _ _ h => h⟩
theorem Keeps.trans {x y z : World} (h : Keeps x y) (k : Keeps y z) : Keeps x z := ⟨fun a v hv => k.1 a v (h.1 a v hv), fun v bs hv => k.2 v bs (h.2 v bs hv)⟩
theorem Keeps.drew (w : World) : Keeps w w.drew := ⟨fun _ _ h => h, fun v bs h => BytesAt.extM h ((Ext.refl Nope w).drew) (fun _ h => h.elim)⟩
/-- The region of line 38: before and behind the call of Turn. -/
def St38 (T : TurnW) (q q9 : List (List UInt8)) (t9 : Int) (d : Nat → Bool) (w : World) : Prop := if d 4 = true then PT T q9 t9 w else PT T q 0 w
theorem St38.pass {T : TurnW} {q q9 : List (List UInt8)} {t9 : Int} {d : Nat → Bool} {w : World} (h : St38 T q q9 t9 d w) (i : Nat) (hi : i ≠ 4) : St38 T q q9 t9 (dset d i) w := by
  unfold St38 at h ⊢
  rw [dset_other _ (Ne.symm hi)]
  exact h
/-- A slice of so many. -/
def LenIs (n : Nat) (v : Value) (w : World) : Prop := ∃ a cap, v = .slice a n cap

set_option maxRecDepth 20000 in
set_option maxHeartbeats 40000000 in
theorem turn_walk (c f t : Int) (hx : wayOk (c, f, t)) (lv : Value) (rows : List (List UInt8)) (at_ : Int) (hat : (Lit.int .i64 at_).wf = true) (W : World) (hr : RowsAt W lv rows) :
    Calls Try.prog 5 #[lv, .int .i64 at_, .agg #[.int .i64 c, .int .i64 f, .int .i64 t]] W (BoolPost W true) := by
  obtain ⟨a, cap, rfl, h1, h2, h3, -⟩ := rows_elem hr
  have hnz : rows.length ≠ 0 → ∃ ad, a = some ad := by
    intro h
    cases a with
    | none => have := h3 rfl; omega
    | some ad => exact ⟨ad, rfl⟩
  have hi0 : Ext Nope W (W.alloc (.cells #[.int .i64 c, .int .i64 f, .int .i64 t] 23)) := (Ext.refl _ _).alloc _
  have HR := Lib.hid hr
  have HX := Lib.hid hx
  have HZ := Lib.hid hnz
  have hm : rows.length ≤ maxLen := Nat.le_trans h1 h2
  unfold maxLen at hm
  have HM := Lib.hid hm
  have HAT := Lib.hid hat
  clear h1 h2 h3 hr hx hnz hm hat
  go_enter Try.func5, Try.ntmps5
  go_wp2_with fail
  refine (shown_any _).mono ?_
  rintro e w1 ⟨rfl, he1⟩
  have hX1 : XAt w1 W.heap.size c f t := ⟨he1.cell (by simp) (fun h => h), he1.cell (by simp) (fun h => h), he1.cell (by simp) (fun h => h)⟩
  have HX1 := Lib.hid hX1
  have HE1 := Lib.hid he1
  have HI0 := Lib.hid hi0
  clear he1 hi0 hX1
  go_wp2_with fail
  refine (pt_new W w1 (HI0.out.trans HE1.out) HR.out HX1.out).mono ?_
  rintro e w2 ⟨b, bq, bt, rfl, ho⟩
  obtain ⟨T, hT⟩ : ∃ T : TurnW, T = ⟨W, b, bq, bt, .slice a rows.length cap, rows, W.heap.size, c, f, t⟩ := ⟨_, rfl⟩
  have hb : b = T.b := by rw [hT]
  have hTr : ∀ q tn w, PT T q tn w → RowsAt w (.slice a rows.length cap) rows := fun q tn w h => by have := pt_rows h; rw [hT] at this; exact this
  have hTx : ∀ q tn w, PT T q tn w → XAt w W.heap.size c f t := fun q tn w h => by have := pt_x h; rw [hT] at this; exact this
  have hTe : ∀ q tn w, PT T q tn w → Ext Nope W w := fun q tn w h => by have := pt_ext h; rw [hT] at this; exact this
  rw [← hT] at ho
  clear hT
  subst hb
  have HO := Lib.hid ho
  have HTR := Lib.hid hTr
  have HTX := Lib.hid hTx
  have HTE := Lib.hid hTe
  clear ho hTr hTx hTe HR HX1 HE1 HI0
  go_upto_block 0 with fail
  go_cut [9] (fun s9 wx => PT T ((rows.take 20).map shortOf) 0 wx)
  case first => as_aux_lemma =>
    go_wp2_with fail
    go_loopw [9] (fun i wr => ∃ k : Nat, k ≤ min rows.length 20 ∧ i = .int .i64 k ∧ PT T ((rows.take k).map shortOf) 0 wr) (fun i _ => 20 - (intOf i).toNat)
    case atStart => exact ⟨0, Nat.zero_le _, rfl, HO.out⟩
    case round =>
      obtain ⟨k, hk, rfl, hrk⟩ := hrel
      have HK := Lib.hid hrk
      clear hrk
      by_cases hlt : k < rows.length
      · by_cases h20 : k < 20
        · obtain ⟨ad, rfl⟩ := HZ.out (by omega)
          obtain ⟨_, _, hq0, -, -, -, hq⟩ := rows_elem (HTR.out _ _ _ HK.out)
          simp only [Value.slice.injEq] at hq0
          obtain ⟨rfl, -, -⟩ := hq0
          obtain ⟨x, hcx, hbx⟩ := hq ad rfl k hlt
          have hpush : Hid (((rows.take k).map shortOf) ++ [shortOf rows[k]] = (rows.take (k + 1)).map shortOf) := by
            show _ = _
            rw [List.take_succ_eq_append_getElem hlt, List.map_append]
            rfl
          have HB := Lib.hid hbx
          clear hbx hq
          have hlt' : (k : Int) < (rows.length : Int) := by omega
          have h20' : (k : Int) < 20 := by omega
          go_wp2_with fail
          refine (short_any HB.out).mono ?_
          rintro e w3 ⟨v3, rfl, hb3, rfl⟩
          have HB3 := Lib.hid hb3
          clear hb3 HB
          go_wp2_with fail
          refine (pt_push HK.out v3 _ HB3.out (shortOf_len _) (by simp; omega)).mono ?_
          rintro e w4 ⟨⟨n4, rfl⟩, hr4⟩
          rw [hpush.out] at hr4
          have HR4 := Lib.hid hr4
          clear hr4 HB3 hpush
          go_wp2_with fail
          go_roundw
          case rel => exact ⟨k + 1, by omega, by go_num, HR4.out⟩
          case measure => simp [intOf]; omega
        · have hke : Hid (rows.take k = rows.take 20) := by
            show _ = _
            rw [show k = 20 by omega]
          have h20' : ¬ (k : Int) < 20 := by omega
          have hlt' : (k : Int) < (rows.length : Int) := by omega
          go_wp2_with fail
          go_meet
          case rel =>
            have := HK.out
            rw [hke.out] at this
            exact this
      · have hke : Hid (rows.take k = rows.take 20) := by
          show _ = _
          rw [List.take_of_length_le (by omega), List.take_of_length_le (by omega)]
        have hlt' : ¬ (k : Int) < (rows.length : Int) := by omega
        go_wp2_with fail
        go_meet
        case rel =>
          have := HK.out
          rw [hke.out] at this
          exact this
  case rest =>
  have HQ := Lib.hid hcut
  clear hcut HO
  obtain ⟨M, hM⟩ : ∃ M, M = min rows.length 20 := ⟨_, rfl⟩
  go_upto_region 9 with fail
  go_cut [10] (fun s10 wx => s10 = .int .i64 (M : Int) ∧ PT T ((rows.take 20).map shortOf) 0 wx)
  case first => as_aux_lemma =>
    go_wp2_with fail
    all_goals (go_meet; refine ⟨?_, HQ.out⟩; congr 1; omega)
  case rest =>
  obtain ⟨rfl, hq⟩ := hcut
  clear HQ
  have HQ := Lib.hid hq
  have HM2 := Lib.hid hM
  clear hq hM
  go_wp2_with fail
  refine (pt_turn HQ.out at_).mono ?_
  rintro e w3 ⟨rfl, h3⟩
  obtain ⟨e1, e2⟩ := turn_first rows at_
  rw [e1] at h3
  generalize (turnC ((rows.take 20).map shortOf) 0 at_).1 = cd at *
  obtain ⟨m, hm⟩ : ∃ m, m = mayB rows at_ := ⟨_, rfl⟩
  rw [← hm] at h3 e2
  have H3 := Lib.hid h3
  have HM1 := Lib.hid hm
  have HCD := Lib.hid e2
  clear h3 hm e1 e2 HQ
  go_upto_region 11 with fail
  go_cut [12] (fun s12 wx => s12 = .bool m ∧ PT T (qOf rows m at_) (if m then 1 else 0) wx)
  case first => as_aux_lemma =>
    by_cases h0 : rows.length = 0
    · have hM0 : M = 0 := by have := HM2.out; omega
      have hm0 : m = false := by
        rw [HM1.out, List.eq_nil_of_length_eq_zero h0]
        rfl
      have HMM := Lib.hid hm0
      clear hm0
      subst hM0
      go_wp2_with fail
      go_meet
      case rel => exact ⟨congrArg Value.bool HMM.out.symm, H3.out⟩
    · have hM0 : (0 : Int) < (M : Int) := by have := HM2.out; omega
      obtain ⟨ad, rfl⟩ := HZ.out h0
      obtain ⟨_, _, hq0, -, -, -, hq⟩ := rows_elem (HTR.out _ _ _ H3.out)
      simp only [Value.slice.injEq] at hq0
      obtain ⟨rfl, -, -⟩ := hq0
      obtain ⟨x, hcx, hbx⟩ := hq ad rfl 0 (by omega)
      have hcx0 : w3.cell? ad = some x := by simpa [Addr.add] using hcx
      have hlt0 : (0 : Int) < (rows.length : Int) := by omega
      have hmd : m = decide (0 ≤ at_ ∧ at_ < ((shortOf (rows[0]'(by omega))).length : Int)) := by
        rw [HM1.out]
        cases rows with
        | nil => simp at h0
        | cons b r => rfl
      have HMM := Lib.hid hmd
      have HB := Lib.hid hbx
      clear hbx hq hmd
      by_cases hneg : 0 ≤ at_
      · go_wp2_with fail
        refine (short_any HB.out).mono ?_
        rintro e w4 ⟨v4, rfl, ⟨_, a4, cap4, rfl, -⟩, rfl⟩
        go_wp2_with fail
        go_meet
        case rel =>
          refine ⟨congrArg Value.bool ?_, H3.out⟩
          rw [HMM.out]
          simp [hneg]
      · go_wp2_with fail
        go_meet
        case rel =>
          refine ⟨congrArg Value.bool ?_, H3.out⟩
          rw [HMM.out]
          simp
          omega
  case rest =>
  obtain ⟨rfl, h4⟩ := hcut
  have H4 := Lib.hid h4
  clear h4 H3
  have hcd := HCD.out
  go_upto_block 2 with fail
  clear hcd HCD
  go_cut [13] (fun s13 wx => PT T (qOf rows m at_) (if m then 1 else 0) wx)
  case first => as_aux_lemma =>
    go_wp2_with fail
    go_loopw [13] (fun i wr => ∃ p : Nat, p ≤ M ∧ i = .int .i64 p ∧ PT T (qOf rows m at_) (if m then 1 else 0) wr) (fun i _ => M - (intOf i).toNat)
    case atStart => exact ⟨0, Nat.zero_le _, rfl, H4.out⟩
    case round =>
      obtain ⟨p, hp, rfl, hrp⟩ := hrel
      have HP := Lib.hid hrp
      clear hrp
      by_cases hpM : p < M
      · have hpM' : (p : Int) < (M : Int) := by omega
        have hpl : p < rows.length := by have := HM2.out; omega
        have hp20 : p < min rows.length 20 := by have := HM2.out; omega
        have hlp : (p : Int) < (rows.length : Int) := by omega
        obtain ⟨ad, rfl⟩ := HZ.out (by omega)
        have hpb : p < 20 := by omega
        have HPL := Lib.hid hp20
        clear hp20
        go_wp2_with fail
        refine (pt_peek HP.out p (by rw [qOf_length]; exact HPL.out)).mono ?_
        rintro e w5 ⟨v5, rfl, hb5, hr5⟩
        obtain ⟨_, _, hq0, -, -, -, hq⟩ := rows_elem (HTR.out _ _ _ hr5)
        simp only [Value.slice.injEq] at hq0
        obtain ⟨rfl, -, -⟩ := hq0
        obtain ⟨x5, hcx5, hbx5⟩ := hq ad rfl p hpl
        obtain ⟨row, hrow⟩ : ∃ row, row = rows.getD p [] := ⟨_, rfl⟩
        have hbx : BytesAt w5 x5 row := by
          rw [hrow, show rows.getD p [] = rows[p]'hpl from by simp [List.getD, List.getElem?_eq_getElem hpl]]
          exact hbx5
        have hq5 : (qOf rows m at_).getD p [] = if (m && decide (p = 0)) = true then turnAt at_.toNat (shortOf row) else shortOf row := by
          rw [hrow]
          by_cases h0 : p = 0
          · subst h0
            rw [qOf_zero _ _ _ hpl]
            simp
          · rw [qOf_pos _ _ _ _ (by omega) HPL.out]
            simp [h0]
        have hat5 : (m && decide (p = 0)) = true → ∃ k : Nat, at_ = k ∧ k < (shortOf row).length := by
          intro h
          simp only [Bool.and_eq_true, decide_eq_true_eq] at h
          obtain ⟨h1, h2⟩ := h
          subst h2
          have hm := HM1.out
          rw [h1] at hm
          rw [hrow]
          cases rows with
          | nil => simp at hpl
          | cons b r =>
            have hm' : decide (0 ≤ at_ ∧ at_ < ((shortOf b).length : Int)) = true := hm.symm
            rw [decide_eq_true_eq] at hm'
            exact ⟨at_.toNat, by omega, by simp; omega⟩
        rw [hq5] at hb5
        have he6 : Ext Nope w5 (w5.alloc (.cells #[] 5)) := (Ext.refl _ _).alloc _
        have hcx6 : (w5.alloc (.cells #[] 5)).cell? (ad.add p) = some x5 := he6.cell hcx5 (fun h => h)
        have HB6 := Lib.hid (hbx.extM he6 (fun _ h => h.elim) (M := Nope))
        have HB5 := Lib.hid hb5
        have HR5 := Lib.hid hr5
        have HROW := Lib.hid hrow
        have HAT5 := Lib.hid hat5
        clear hq hbx hbx5 hb5 hr5 hrow hat5 hq5 he6 HP hcx5
        go_wp2_with fail
        refine (short_any HB6.out).mono ?_
        rintro e w6 ⟨v6, rfl, hb6, rfl⟩
        obtain ⟨v7, w7, happ, ho7, he7⟩ := app_short w5 v6 _ hb6 (shortOf_len _)
        have HO7 := Lib.hid ho7
        have HE7 := Lib.hid he7
        clear ho7 he7 HB6
        obtain ⟨_, a6, cap6, rfl, -⟩ := hb6
        have HAPP := Lib.hid happ
        clear happ
        obtain ⟨a7, cap7, rfl⟩ := own_slice HO7.out
        have hR7 := pt_on HR5.out HE7.out
        have hb57 := BytesAt.extM HB5.out HE7.out (fun _ h => h.elim)
        have HR7 := Lib.hid hR7
        clear hR7
        by_cases hfl : (m && decide (p = 0)) = true
        · obtain ⟨k, rfl, hk⟩ := HAT5.out hfl
          rw [if_pos hfl] at hb57
          have hB5 := HB5.out
          rw [if_pos hfl] at hB5
          have HB5' := Lib.hid hB5
          clear hB5 HB5
          simp only [Bool.and_eq_true, decide_eq_true_eq] at hfl
          obtain ⟨rfl, rfl⟩ := hfl
          simp only [Int.toNat_natCast] at hb57
          obtain ⟨g, cur, rfl, hg1, hg2, hg3, hg4, hg5, hg6⟩ := own_head HO7.out (by omega)
          obtain ⟨y, hy⟩ : ∃ y, y = (shortOf row).getD k 0 := ⟨_, rfl⟩
          have hlc : k < cur.size := by omega
          have hkc : w7.cell? ⟨g, k, none⟩ = some (.int .u8 y.toNat) := by
            have h1 : (cur.toList.take (shortOf row).length)[k]? = some cur[k] := by simp [hk, hlc]
            rw [hg4] at h1
            simp only [World.cell?, hg2]
            have h2 : cur[k] = byteV y := by
              rw [hy]
              simp [hk] at h1
              simp [hk, ← h1]
            simp [hlc, h2, byteV]
          have hkf : w7.frozen? ⟨g, k, none⟩ = false := by simp [World.frozen?, hg2]
          have hown8 := own_set (w := w7) hg1 hg2 hg3 hg4 hg5 hg6 k (y ^^^ 1)
          have he8 : Ext Nope w5 (w7.setCell ⟨g, k, none⟩ (byteV (y ^^^ 1))) := HE7.out.setCell (.inr hg1) _
          have hE78 : Ext Nope w5 (w7.setCell ⟨g, k, none⟩ (byteV (y ^^^ 1))) := he8
          have hR8 := pt_on HR5.out he8
          have hc5 := bytes_string (BytesAt.extM HB5'.out he8 (fun _ h => h.elim))
          have ho8 : (w7.setCell ⟨g, k, none⟩ (byteV (y ^^^ 1))).ownsRow w5.heap.size 5 1 (.slice (some ⟨g, 0, none⟩) (shortOf row).length cap7) (turnAt k (shortOf row)).length ((turnAt k (shortOf row)).map byteV) := by
            unfold turnAt
            rw [← hy, List.length_set]
            exact hown8
          have hc8 := bytes_string (SliceAt.of_own ho8 : BytesAt _ _ _)
          clear ho8
          obtain ⟨sb, hsb⟩ : ∃ sb : ByteArray, strOf (turnAt k (shortOf row)) = .string sb := ⟨_, rfl⟩
          rw [hsb] at hc8
          simp only [Int.toNat_natCast] at hc5
          rw [hsb] at hc5
          have HR8 := Lib.hid hR8
          clear hown8 he8 hg1 hg2 hg3 hg4 hlc hR8 hy hb57 HR7 HO7 hsb hE78
          have hkl : (k : Int) < ((shortOf row).length : Int) := by omega
          have hxo := xor_one y
          have hxv : byteV (y ^^^ 1) = Value.int .u8 ((y.toNat ^^^ 1 : Nat) : Int) := by
            unfold byteV
            congr 1
          rw [hxv] at hc5 hc8 HR8
          clear hxv
          go_wp2_with (at_builtin; refine wpList_append_run rfl (.tmp 80) (.tmp 85) 29 rfl rfl rfl HAPP.out ?_)
          go_roundw
          case rel => exact ⟨1, by omega, by go_num, HR8.out⟩
          case measure => simp [intOf]; omega
        · rw [if_neg hfl] at hb57
          have hc5 := bytes_string hb57
          have hc7 := bytes_string (SliceAt.of_own HO7.out : BytesAt w7 _ _)
          obtain ⟨sb, hsb⟩ : ∃ sb : ByteArray, strOf (shortOf row) = .string sb := ⟨_, rfl⟩
          rw [hsb] at hc5 hc7
          clear hb57 hsb
          by_cases hmm : m = true
          · subst hmm
            have hp0 : ¬ p = 0 := by simpa using hfl
            have hp0' : ¬ (p : Int) = 0 := by omega
            clear hfl
            go_wp2_with (at_builtin; refine wpList_append_run rfl (.tmp 80) (.tmp 85) 29 rfl rfl rfl HAPP.out ?_)
            go_roundw
            case rel => exact ⟨p + 1, by omega, by go_num, HR7.out⟩
            case measure => simp [intOf]; omega
          · have hmf : m = false := by simpa using hmm
            subst hmf
            clear hfl hmm
            go_wp2_with (at_builtin; refine wpList_append_run rfl (.tmp 80) (.tmp 85) 29 rfl rfl rfl HAPP.out ?_)
            go_roundw
            case rel => exact ⟨p + 1, by omega, by go_num, HR7.out⟩
            case measure => simp [intOf]; omega
      · have hpe : ¬ (p : Int) < (M : Int) := by omega
        go_wp2_with fail
        go_meet
        case rel => exact HP.out
  case rest =>
  have H5 := Lib.hid hcut
  clear hcut H4
  go_upto_region 23 with fail
  go_cut [120] (fun s120 wx => s120 = .bool false ∧ ∃ tn', PT T (qOf rows m at_) tn' wx)
  case first => as_aux_lemma =>
    cases m with
    | false =>
      go_wp2_with fail
      go_meet
      case rel => exact ⟨rfl, _, H5.out⟩
    | true =>
      have hne : qOf rows true at_ ≠ [] := by
        intro h
        have h1 := qOf_length rows true at_
        rw [h] at h1
        have h2 : rows.length = 0 := by simp at h1; omega
        have h3 := HM1.out
        rw [List.eq_nil_of_length_eq_zero h2] at h3
        cases h3
      have h5 : PT T (qOf rows true at_) 1 wc := H5.out
      have c1 := pt_turn h5 at_
      rw [turn_again at_ hne] at c1
      have c2 := fun w' (h : PT T (qOf rows true at_) 1 w') => pt_turn h 0
      simp only [turn_again 0 hne] at c2
      clear h5 hne
      go_wp2_with fail
      refine c1.mono ?_
      rintro e w5 ⟨rfl, h5⟩
      have c3 := c2 _ h5
      clear c1 c2 h5
      go_wp2_with fail
      refine c3.mono ?_
      rintro e w6 ⟨rfl, h6⟩
      clear c3
      have H6 := Lib.hid h6
      clear h6
      go_wp2_with fail
      go_meet
      case rel => exact ⟨rfl, _, H6.out⟩
  case rest =>
  obtain ⟨rfl, tn', h6⟩ := hcut
  have H6 := Lib.hid h6
  clear h6 H5
  go_wp2_with fail
  refine (pt_pop H6.out).mono ?_
  rintro e w8 ⟨v8, c8, rfl, h8⟩
  have h8' : ∃ tn, PT T (qOf rows m at_).tail tn w8 ∧ ((qOf rows m at_).tail ≠ [] → tn = 0) := by
    refine ⟨_, h8, fun hne => ?_⟩
    rw [if_neg]
    intro e
    rw [e] at hne
    exact hne rfl
  rw [qOf_tail] at h8'
  obtain ⟨tn8, h9, h10⟩ := h8'
  have H9 := Lib.hid h9
  have H10 := Lib.hid h10
  clear h8 h9 h10 H6
  go_upto_region 26 with fail
  go_cut [136] (fun s136 wx => s136 = .bool false ∧ ∃ q' tn', PT T q' tn' wx)
  case first => as_aux_lemma =>
    by_cases hM1 : 1 < M
    · have hlr : 1 < rows.length := by have := HM2.out; omega
      obtain ⟨ad, rfl⟩ := HZ.out (by omega)
      obtain ⟨_, _, hq0, -, -, -, hq⟩ := rows_elem (HTR.out _ _ _ H9.out)
      simp only [Value.slice.injEq] at hq0
      obtain ⟨rfl, -, -⟩ := hq0
      obtain ⟨x1, hcx1, hbx1⟩ := hq ad rfl 1 hlr
      have hdrop : ∃ r, ((rows.take 20).drop 1).map shortOf = shortOf (rows[1]'hlr) :: r := by
        refine ⟨((rows.take 20).drop 2).map shortOf, ?_⟩
        rw [List.drop_eq_getElem_cons (by simp; omega), List.map_cons, List.getElem_take]
      obtain ⟨r, hr⟩ := hdrop
      have h9 := H9.out
      have h10 := H10.out
      rw [hr] at h9 h10
      have h11 : tn8 = 0 := h10 (by simp)
      rw [h11] at h9
      have ht1 := fun y (hy : PT T (shortOf (rows[1]'hlr) :: r) 0 y) => pt_turn_keeps hy 0
      have hcx1' : w8.cell? ⟨ad.block, ad.off + 1, none⟩ = some x1 := by simpa [Addr.add] using hcx1
      have htc : ((turnC (shortOf (rows[1]'hlr) :: r) 0 0).1 == 0) = decide ((0 : Int) < ((shortOf (rows[1]'hlr)).length : Int)) := by
        unfold turnC
        by_cases h : (shortOf (rows[1]'hlr)).length = 0
        · simp only [if_pos (show ((0 : Int) < 0 ∨ ((shortOf (rows[1]'hlr)).length : Int) ≤ 0 ∨ (0 : Int) < 0) by omega)]
          rw [decide_eq_false (by omega)]
          rfl
        · simp only [if_neg (show ¬ ((0 : Int) < 0 ∨ ((shortOf (rows[1]'hlr)).length : Int) ≤ 0 ∨ (0 : Int) < 0) by omega)]
          rw [decide_eq_true (by omega)]
          rfl
      clear h10 hr hq
      generalize rows[1]'hlr = row at *
      generalize (turnC (shortOf row :: r) 0 0).2.1 = q9 at *
      generalize (turnC (shortOf row :: r) 0 0).2.2 = t9 at *
      generalize (turnC (shortOf row :: r) 0 0).1 = cd1 at *
      have hM1' : (1 : Int) < (M : Int) := by omega
      have hlr' : (1 : Int) < (rows.length : Int) := by omega
      have HTC := Lib.hid htc
      have HT1 : Hid (∀ y, PT T (shortOf row :: r) 0 y → Calls Try.prog 16 #[.pointer (some ⟨T.b, 0, none⟩), .int .i64 0, .int .i64 1, .int .i64 2, .int .i64 0] y fun e w' => e = .returned (.int .i64 cd1) ∧ PT T q9 t9 w' ∧ Keeps y w') := ht1
      have H90 := Lib.hid (pt_on h9 ((Ext.refl Nope w8).drew))
      have HCX := Lib.hid hcx1'
      have HBX := Lib.hid hbx1
      clear htc ht1 h9 hcx1' hcx1 hbx1
      refine' wp_region_stage 14 230 (by kernel_rfl) rfl (by kernel_rfl) Keeps (fun w1 => w1.cell? ⟨ad.block, ad.off + 1, none⟩ = some x1 ∧ BytesAt w1 x1 row) (St38 T (shortOf row :: r) q9 t9) Keeps.trans (Keeps.drew _) ⟨HCX.out, (Keeps.drew _).2 _ _ HBX.out⟩ H90.out (fun _ hk h => ⟨hk.1 _ _ h.1, hk.2 _ _ h.2⟩) _ ?_ ?_
      rotate_left 1
      · skip
        apply Walk2.exact
        · rfl
        · rintro d ev w1 ⟨ec, eg, ef⟩ hR - hd hSt
          have HS := Lib.hid (hSt.pass 0 (by omega))
          clear hSt hR hd
          go_simp
          intros
          go_simp
          exact ⟨Keeps.refl _, HS.out, rfl⟩
        apply Walk2.exact
        · rfl
        · rintro d ev w1 ⟨ec, eg, ef⟩ hR - hd hSt
          have HS := Lib.hid (hSt.pass 1 (by omega))
          clear hSt hR hd
          go_simp
          intros
          go_simp
          exact ⟨Keeps.refl _, HS.out, rfl⟩
        apply Walk2.exact
        · rfl
        · rintro d ev w1 ⟨ec, eg, ef⟩ hR - hd hSt
          have HS := Lib.hid (hSt.pass 2 (by omega))
          clear hSt hR hd
          go_simp
          intros
          go_simp
          exact ⟨Keeps.refl _, HS.out, rfl⟩
        apply Walk2.exact
        · rfl
        · rintro d ev w1 ⟨ec, eg, ef⟩ hR - hd hSt
          have HS := Lib.hid (hSt.pass 3 (by omega))
          clear hSt hR hd
          go_simp
          intros
          go_simp
          exact ⟨Keeps.refl _, HS.out, rfl⟩
        apply Walk2.exact
        · rfl
        · rintro d ev w1 ⟨ec, eg, ef⟩ hR - hd hSt
          have hp : PT T (shortOf row :: r) 0 w1 := by
            unfold St38 at hSt
            rw [hd, if_neg (by simp)] at hSt
            exact hSt
          have HP := Lib.hid hp
          clear hp hSt hR hd
          go_simp
          intros
          go_simp
          refine (HT1.out _ HP.out).mono ?_
          rintro e w2 ⟨rfl, h2, hk2⟩
          refine ⟨_, rfl, hk2, ?_, rfl⟩
          unfold St38
          rw [dset_same, if_pos rfl]
          exact h2
        apply Walk2.exact
        · rfl
        · rintro d ev w1 ⟨ec, eg, ef⟩ hR - hd hSt
          have HS := Lib.hid (hSt.pass 5 (by omega))
          clear hSt hR hd
          go_simp
          intros
          go_simp
          exact ⟨Keeps.refl _, HS.out, rfl⟩
        apply Walk2.exact
        · rfl
        · rintro d ev w1 ⟨ec, eg, ef⟩ hR - hd hSt
          have HS := Lib.hid (hSt.pass 6 (by omega))
          clear hSt hR hd
          go_simp
          intros
          go_simp
          exact ⟨Keeps.refl _, HS.out, rfl⟩
        apply Walk2.exact
        · rfl
        · rintro d ev w1 ⟨ec, eg, ef⟩ hR - hd hSt
          have HS := Lib.hid (hSt.pass 7 (by omega))
          clear hSt hR hd
          go_simp
          intros
          go_simp
          exact ⟨Keeps.refl _, HS.out, rfl⟩
        apply Walk2.exact
        · rfl
        · rintro d ev w1 ⟨ec, eg, ef⟩ hR ⟨hcell, -⟩ hd hSt
          have HS := Lib.hid (hSt.pass 8 (by omega))
          clear hSt hR hd
          go_simp
          intros
          go_simp
          exact ⟨Keeps.refl _, HS.out, rfl⟩
        apply Walk2.fact (LenIs (shortOf row).length)
        · rfl
        · intro v w1 w2 _ _ _ _ h
          exact h
        · rintro d ev w1 ⟨ec, eg, ef⟩ hR ⟨-, hb⟩ hd hSt
          have HS := Lib.hid (hSt.pass 9 (by omega))
          clear hSt hR hd
          go_simp
          intros
          go_simp
          refine (short_any hb).mono ?_
          rintro e w6 ⟨v6, rfl, ⟨_, a6, cap6, rfl, -⟩, rfl⟩
          exact ⟨_, rfl, Keeps.refl _, HS.out, _, _, rfl⟩
        apply Walk2.exact
        · rfl
        · rintro d ev w1 ⟨ec, eg, ef⟩ hR - hd hSt
          have HS := Lib.hid (hSt.pass 10 (by omega))
          clear hSt hR hd
          simp only [sees, Known.find, Op.operands, Call.operands, List.toList_toArray, List.append_toArray, List.nil_append, List.append_nil, ↓reduceIte, Option.some.injEq, Nat.reduceEqDiff, Spec.holds]
          generalize hz : ev (Operand.tmp 132) = z
          rintro ⟨⟨a6, cap6, rfl⟩, -⟩
          go_simp
          intros
          go_simp
          exact ⟨Keeps.refl _, HS.out, rfl⟩
        apply Walk2.exact
        · rfl
        · rintro d ev w1 ⟨ec, eg, ef⟩ hR - hd hSt
          have HS := Lib.hid (hSt.pass 11 (by omega))
          clear hSt hR hd
          go_simp
          intros
          go_simp
          exact ⟨Keeps.refl _, HS.out, rfl⟩
        apply Walk2.exact
        · rfl
        · rintro d ev w1 ⟨ec, eg, ef⟩ hR - hd hSt
          have HS := Lib.hid (hSt.pass 12 (by omega))
          clear hSt hR hd
          go_simp
          intros
          go_simp
          exact ⟨Keeps.refl _, HS.out, rfl⟩
        apply Walk2.exact
        · rfl
        · rintro d ev w1 ⟨ec, eg, ef⟩ hR - hd hSt
          have HS := Lib.hid (hSt.pass 13 (by omega))
          clear hSt hR hd
          go_simp
          intros
          go_simp
          exact ⟨Keeps.refl _, HS.out, rfl⟩
        exact Walk2.nil
      · rintro d w2 - - hdn hst
        have hp : PT T q9 t9 w2 := by
          unfold St38 at hst
          rw [hdn 4 (by omega), if_pos rfl] at hst
          exact hst
        have HP := Lib.hid hp
        clear hp hst hdn
        simp only [Finish]
        intro v1 hv1
        go_simp
        go_wp2
        go_meet
        refine ⟨?_, _, _, HP.out⟩
        rw [HTC.out]
        simp
    · have hM1' : ¬ (1 : Int) < (M : Int) := by omega
      have h9 := pt_on H9.out ((Ext.refl Nope w8).drew)
      go_region
      all_goals (go_wp2_with fail; go_meet; exact ⟨rfl, _, _, h9⟩)
  case rest =>
  obtain ⟨rfl, q', tn', hB⟩ := hcut
  obtain ⟨hx0, hx1, hx2⟩ := HTX.out _ _ _ hB
  have HB := Lib.hid hB
  clear hB H9 H10
  go_upto_region 28 with fail
  go_cut [164] (fun s164 wx => s164 = .bool (isB 3 (c, f, t)) ∧ PT T q' tn' wx)
  case first => as_aux_lemma =>
    by_cases c0 : 0 ≤ c
    · by_cases c1 : c < 2
      · by_cases f0 : 0 ≤ f
        · by_cases f1 : f < 3
          · by_cases t0 : 0 ≤ t
            · by_cases t1 : t < 3
              · go_wp2_with fail
                go_meet
                case rel => exact ⟨congrArg Value.bool (by unfold isB; simp; omega), HB.out⟩
              · go_wp2_with fail
                go_meet
                case rel => exact ⟨congrArg Value.bool (by unfold isB; simp; omega), HB.out⟩
            · go_wp2_with fail
              go_meet
              case rel => exact ⟨congrArg Value.bool (by unfold isB; simp; omega), HB.out⟩
          · go_wp2_with fail
            go_meet
            case rel => exact ⟨congrArg Value.bool (by unfold isB; simp; omega), HB.out⟩
        · go_wp2_with fail
          go_meet
          case rel => exact ⟨congrArg Value.bool (by unfold isB; simp; omega), HB.out⟩
      · go_wp2_with fail
        go_meet
        case rel => exact ⟨congrArg Value.bool (by unfold isB; simp; omega), HB.out⟩
    · go_wp2_with fail
      go_meet
      case rel => exact ⟨congrArg Value.bool (by unfold isB; simp; omega), HB.out⟩
  case rest =>
  obtain ⟨rfl, hC⟩ := hcut
  clear hx0 hx1 hx2 HB
  obtain ⟨hx0, hx1, hx2⟩ := HTX.out _ _ _ hC
  have HC := Lib.hid hC
  clear hC
  cases hin : isB 3 (c, f, t)
  · as_aux_lemma =>
    have HIN := Lib.hid hin
    clear hin
    go_wp2_with fail
    refine (pt_outpop HC.out c f t HX.out HIN.out).mono ?_
    rintro e wa ⟨va, rfl, ha⟩
    clear hx0 hx1 hx2 HC
    obtain ⟨hx0, hx1, hx2⟩ := HTX.out _ _ _ ha
    have HA := Lib.hid ha
    clear ha
    go_wp2_with fail
    refine (pt_outpush HA.out c f t HX.out HIN.out).mono ?_
    rintro e wb ⟨rfl, hb⟩
    clear hx0 hx1 hx2 HA
    obtain ⟨hx0, hx1, hx2⟩ := HTX.out _ _ _ hb
    have HB := Lib.hid hb
    clear hb
    go_wp2_with fail
    refine (pt_outturn HB.out c f t HX.out HIN.out).mono ?_
    rintro e wc ⟨rfl, hc⟩
    clear hx0 hx1 hx2 HB
    obtain ⟨hx0, hx1, hx2⟩ := HTX.out _ _ _ hc
    have HD := Lib.hid hc
    clear hc
    go_wp2_with fail
    refine (pt_room HD.out c f t HX.out).mono ?_
    rintro e wd ⟨rfl, hd⟩
    rw [HIN.out]
    clear hx0 hx1 hx2 HD
    obtain ⟨hx0, hx1, hx2⟩ := HTX.out _ _ _ hd
    have HE := Lib.hid hd
    clear hd
    go_wp2_with fail
    refine (pt_outlen HE.out c f t HX.out HIN.out).mono ?_
    rintro e we ⟨rfl, he⟩
    have HF := Lib.hid (HTE.out _ _ _ he)
    clear he hx0 hx1 hx2 HE
    go_wp2_with fail
    go_ret
    exact ⟨rfl, HF.out⟩
  · as_aux_lemma =>
    have HIN := Lib.hid hin
    clear hin
    go_wp2_with fail
    refine (pt_room HC.out c f t HX.out).mono ?_
    rintro e wd ⟨rfl, hd⟩
    rw [HIN.out]
    have HF := Lib.hid (HTE.out _ _ _ hd)
    clear hd hx0 hx1 hx2 HC
    go_wp2_with fail
    go_ret
    exact ⟨rfl, HF.out⟩
end Go.Proofs.Ytjpkhediolahaaa
