/- The walk of QueuesRoom: it returns true. Conditions: the arguments are ints. -/
import Derived.Test.YtjpkhediolahaaaQm
set_option linter.unusedVariables false
set_option linter.unusedSimpArgs false
set_option linter.unusedSectionVars false
set_option linter.unnecessarySimpa false
namespace Go.Proofs.Ytjpkhediolahaaa
open Go.RowKit Go.Mk Go.Maps

/-- One queue alone has batches. -/
def Single (s : NS) (n : Nat) : Prop := (s.q (1, 0, 1)).length = n ∧ ∀ y, y ≠ (1, 0, 1) → s.q y = []
theorem single_none : Single NS.none 0 := ⟨rfl, fun _ _ => rfl⟩
theorem push_single {s : NS} {n : Nat} (h : Single s n) (bs : List UInt8) : (pushM 2 s (1, 0, 1) bs).1 = (if n < 64 then 0 else 21) ∧ Single (pushM 2 s (1, 0, 1) bs).2 (if n < 64 then n + 1 else n) := by
  obtain ⟨h1, h2⟩ := h
  have hi : isB 2 (1, 0, 1) = true := rfl
  unfold pushM
  rw [hi, if_pos rfl]
  by_cases hn : n < 64
  · rw [if_neg (by omega), if_pos hn, if_pos hn]
    refine ⟨rfl, by simp [upd_same, h1], fun y hy => ?_⟩
    simp only [upd_other _ _ hy]
    exact h2 y hy
  · rw [if_pos (by omega), if_neg hn, if_neg hn]
    exact ⟨rfl, h1, h2⟩
theorem pop_single {s : NS} {n : Nat} (h : Single s n) : Single (popM 2 s (1, 0, 1)).2.2 (n - 1) := by
  obtain ⟨h1, h2⟩ := h
  have hi : isB 2 (1, 0, 1) = true := rfl
  unfold popM
  rw [hi, if_pos rfl]
  cases hq : s.q (1, 0, 1) with
  | nil =>
    rw [hq] at h1
    simp at h1
    subst h1
    exact ⟨by rw [hq]; rfl, h2⟩
  | cons b r =>
    rw [hq] at h1
    refine ⟨by simp [upd_same] at h1 ⊢; omega, fun y hy => ?_⟩
    simp only [upd_other _ _ hy]
    exact h2 y hy
theorem empty_single {s : NS} {n : Nat} (h : Single s n) : emptyB s.q = decide (n = 0) := by
  obtain ⟨h1, h2⟩ := h
  by_cases hn : n = 0
  · rw [decide_eq_true hn]
    refine emptyB_true fun x _ => ?_
    by_cases e : x = (1, 0, 1)
    · subst e
      exact List.eq_nil_of_length_eq_zero (by omega)
    · exact h2 x e
  · rw [decide_eq_false hn]
    exact emptyB_false (x := (1, 0, 1)) (wok _ _ _ (by omega) (by omega) (by omega)) (fun e => by rw [e] at h1; simp at h1; omega)
theorem room_single {s : NS} {n : Nat} (h : Single s n) (m : Int) (hm : 0 ≤ m) : roomB 2 s.q (1, 0, 1) m = decide ((n : Int) + m ≤ 64) := by
  unfold roomB
  rw [show isB 2 (1, 0, 1) = true from rfl, h.1, decide_eq_true hm]
  simp only [Bool.true_and]
  congr 1
  simp only [eq_iff_iff]
  omega

/-- What the law holds in its round. -/
def RelM (W : World) (b bq bt : Nat) (n : Nat) (wr : World) : Prop := ∃ s, NetM W wr b bq bt 2 s ∧ Single s n

theorem rel_push {W w : World} {b bq bt n : Nat} (h : RelM W b bq bt n w) (v : Value) (bs : List UInt8) (hv : BytesAt w v bs) (hb : bs.length ≤ 100000) :
    Calls Try.prog 9 #[.pointer (some ⟨b, 0, none⟩), .int .i64 1, .int .i64 0, .int .i64 1, v] w fun e w' => e = .returned (.int .i64 (if n < 64 then 0 else 21)) ∧ RelM W b bq bt (if n < 64 then n + 1 else n) w' := by
  obtain ⟨s, h1, h2⟩ := h
  obtain ⟨p1, p2⟩ := push_single h2 bs
  refine (push_law h1 1 0 1 v bs (wok _ _ _ (by omega) (by omega) (by omega)) hv hb).mono ?_
  rintro e w' ⟨rfl, h3, -⟩
  rw [p1]
  exact ⟨rfl, _, h3, p2⟩
theorem rel_pop {W w : World} {b bq bt n : Nat} (h : RelM W b bq bt n w) :
    Calls Try.prog 11 #[.pointer (some ⟨b, 0, none⟩), .int .i64 1, .int .i64 0, .int .i64 1] w fun e w' => ∃ v c, e = .returned (.tuple #[v, .int .i64 c]) ∧ RelM W b bq bt (n - 1) w' := by
  obtain ⟨s, h1, h2⟩ := h
  refine (pop_law h1 1 0 1 (wok _ _ _ (by omega) (by omega) (by omega))).mono ?_
  rintro e w' ⟨v, rfl, _, h3, -⟩
  exact ⟨v, _, rfl, _, h3, pop_single h2⟩
theorem rel_room {W w : World} {b bq bt n : Nat} (h : RelM W b bq bt n w) (m : Int) (hm : 0 ≤ m) :
    Calls Try.prog 14 #[.pointer (some ⟨b, 0, none⟩), .int .i64 1, .int .i64 0, .int .i64 1, .int .i64 m] w fun e w' => e = .returned (.bool (decide ((n : Int) + m ≤ 64))) ∧ RelM W b bq bt n w' := by
  obtain ⟨s, h1, h2⟩ := h
  refine (room_law h1 1 0 1 m (wok _ _ _ (by omega) (by omega) (by omega))).mono ?_
  rintro e w' ⟨rfl, h3, -⟩
  rw [room_single h2 m hm]
  exact ⟨rfl, _, h3, h2⟩
theorem rel_empty {W w : World} {b bq bt n : Nat} (h : RelM W b bq bt n w) :
    Calls Try.prog 15 #[.pointer (some ⟨b, 0, none⟩)] w fun e w' => e = .returned (.bool (decide (n = 0))) ∧ RelM W b bq bt n w' := by
  obtain ⟨s, h1, h2⟩ := h
  refine (empty_law h1).mono ?_
  rintro e w' ⟨rfl, h3, -⟩
  rw [empty_single h2]
  exact ⟨rfl, _, h3, h2⟩
theorem rel_len {W w : World} {b bq bt n : Nat} (h : RelM W b bq bt n w) :
    Calls Try.prog 12 #[.pointer (some ⟨b, 0, none⟩), .int .i64 1, .int .i64 0, .int .i64 1] w fun e w' => e = .returned (.int .i64 n) ∧ RelM W b bq bt n w' := by
  obtain ⟨s, h1, h2⟩ := h
  refine (len_law h1 1 0 1 (wok _ _ _ (by omega) (by omega) (by omega))).mono ?_
  rintro e w' ⟨rfl, h3, -⟩
  rw [h2.1]
  exact ⟨rfl, _, h3, h2⟩
theorem rel_new (W w : World) (he : Ext Nope W w) :
    Calls Try.prog 8 #[.int .i64 2] w fun e w' => ∃ b bq bt, e = .returned (.pointer (some ⟨b, 0, none⟩)) ∧ RelM W b bq bt 0 w' := by
  refine (new_law 2 w).mono ?_
  rintro e w' ⟨b, bq, bt, rfl, h⟩
  exact ⟨b, bq, bt, rfl, NS.none, ⟨h.net, Nat.le_trans he.size h.nb, Nat.le_trans he.size h.nq, Nat.le_trans he.size h.nt, h.ok, he.trans h.ext⟩, single_none⟩
theorem rel_on {W w w' : World} {b bq bt n : Nat} (h : RelM W b bq bt n w) (he : Ext Nope w w') : RelM W b bq bt n w' := by
  obtain ⟨s, h1, h2⟩ := h
  exact ⟨s, h1.on he, h2⟩
theorem rel_ext {W w : World} {b bq bt n : Nat} (h : RelM W b bq bt n w) : Ext Nope W w := by
  obtain ⟨s, h1, _⟩ := h
  exact h1.ext
theorem nil_bytes (w : World) : BytesAt w (.slice none 0 0) [] := SliceAt.nil w 1

set_option maxHeartbeats 2000000 in
theorem room_walk (a0 a1 : Int) (W : World) (h1 : -9223372036854775808 ≤ a0) (h2 : a0 ≤ 9223372036854775807) (h3 : -9223372036854775808 ≤ a1) (h4 : a1 ≤ 9223372036854775807) :
    Calls Try.prog 4 #[.int .i64 a0, .int .i64 a1] W (BoolPost W true) := by
  have k0 := kind_any a0 71
  have k1 := kind_any a1 71
  have b0 := kindOf_bd a0 71 (by omega)
  have b1 := kindOf_bd a1 71 (by omega)
  generalize kindOf a0 71 = K at *
  generalize kindOf a1 71 = M at *
  obtain ⟨k, rfl⟩ := Int.eq_ofNat_of_zero_le b0.1
  obtain ⟨m, rfl⟩ := Int.eq_ofNat_of_zero_le b1.1
  have hk : k < 71 := by omega
  have hm : m < 71 := by omega
  clear b0 b1
  go_enter Try.func4, Try.ntmps4
  go_wp2_with fail
  refine (shown_any W).mono ?_
  rintro e w1 ⟨rfl, he1⟩
  go_wp2_with fail
  refine (rel_new W w1 he1).mono ?_
  rintro e w2 ⟨b, bq, bt, rfl, hr2⟩
  clear he1
  go_wp2_with fail
  refine (k0 w2 h1 h2 (by omega) (by omega)).mono ?_
  rintro e w3 ⟨rfl, rfl⟩
  go_wp2_with fail
  refine (k1 w2 h3 h4 (by omega) (by omega)).mono ?_
  rintro e w3 ⟨rfl, rfl⟩
  clear k0 k1
  go_wp2_with fail
  go_loopw [9] (fun i wr => ∃ j : Nat, j ≤ k ∧ i = .int .i64 j ∧ RelM W b bq bt (min j 64) wr) (fun i _ => k - (intOf i).toNat)
  case atStart => exact ⟨0, Nat.zero_le _, rfl, hr2⟩
  case round =>
    obtain ⟨j, hj, rfl, hrj⟩ := hrel
    have HJ := Lib.hid hrj
    clear hrj hr2
    by_cases hlt : j < k
    · have hx : (UInt8.ofNat j).toNat = j := by simp [UInt8.toNat_ofNat']; omega
      have hby := one_byte wr (UInt8.ofNat j) (0, 0)
      rw [hx] at hby
      have HB := Lib.hid hby
      clear hby
      go_wp2_with fail
      refine (rel_push (rel_on HJ.out ((Ext.refl _ _).alloc _)) _ [UInt8.ofNat j] HB.out (by simp)).mono ?_
      rintro e w' ⟨rfl, hr'⟩
      have hR : Hid (RelM W b bq bt (min (j + 1) 64) w') := by
        show RelM W b bq bt (min (j + 1) 64) w'
        rw [show min (j + 1) 64 = if min j 64 < 64 then min j 64 + 1 else min j 64 by split <;> omega]
        exact hr'
      clear hr'
      go_wp2_with fail
      go_roundw
      case rel => exact ⟨j + 1, by omega, by go_num, hR.out⟩
      case measure => simp [intOf]; omega
    · have hje : j = k := by omega
      subst hje
      by_cases h64 : 64 < j
      · have HN : Hid (RelM W b bq bt 64 wr) := by
          show RelM W b bq bt 64 wr
          have := HJ.out
          rwa [show min j 64 = 64 by omega] at this
        clear HJ
        go_wp2_with fail
        refine (rel_room HN.out m (by omega)).mono ?_
        rintro e w' ⟨rfl, hr3⟩
        have HR3 := Lib.hid hr3
        clear HN hr3
        go_wp2_with fail
        go_loopw [11, 12] (fun f i wr => ∃ i' : Nat, i' ≤ m ∧ i = .int .i64 i' ∧ f = .bool (decide (((64 : Nat) : Int) + (i' : Int) ≤ 64)) ∧ RelM W b bq bt (min (64 + i') 64) wr) (fun _ i _ => m - (intOf i).toNat)
        case atStart => exact ⟨0, Nat.zero_le _, rfl, congrArg Value.bool (by simp; try omega), by rw [show min (64 + 0) 64 = 64 by omega]; exact HR3.out⟩
        case round =>
          obtain ⟨i', hi', rfl, rfl, hri⟩ := hrel
          have HI := Lib.hid hri
          clear hri
          by_cases hlt2 : i' < m
          · have hd1 : (if min (64 + i') 64 < 64 then (0 : Int) else 21) = if 64 + i' < 64 then 0 else 21 := by
              by_cases h : 64 + i' < 64
              · rw [if_pos h, if_pos (by omega)]
              · rw [if_neg h, if_neg (by omega)]
            have hst : RelM W b bq bt (if min (64 + i') 64 < 64 then min (64 + i') 64 + 1 else min (64 + i') 64) = RelM W b bq bt (min (64 + (i' + 1)) 64) := by
              congr 1
              split <;> omega
            have HD1 := Lib.hid hd1
            have HST := Lib.hid hst
            clear hd1 hst
            go_wp2_with fail
            refine (rel_push HI.out _ [] (nil_bytes wr) (by simp)).mono ?_
            rintro e w4 ⟨rfl, hr4⟩
            rw [HD1.out]
            rw [HST.out] at hr4
            have HR4 := Lib.hid hr4
            clear hr4
            by_cases hful : 64 + i' < 64
            · have hq1 : decide (((64 : Nat) : Int) + (i' : Int) ≤ 64) = true := by simp <;> omega
              rw [if_pos hful, hq1]
              have hq2 : decide (((64 : Nat) : Int) + ((i' + 1 : Nat) : Int) ≤ 64) = true := by simp <;> omega
              have HQ2 := Lib.hid hq2
              clear hq1 hq2
              go_wp2_with fail
              go_roundw
              case rel => exact ⟨i' + 1, by omega, by go_num, by rw [HQ2.out], HR4.out⟩
              case measure => simp [intOf]; omega
            · rw [if_neg hful]
              have hq2 : decide (((64 : Nat) : Int) + ((i' + 1 : Nat) : Int) ≤ 64) = false := by simp <;> omega
              have HQ2 := Lib.hid hq2
              clear hq2
              go_wp2_with fail
              go_roundw
              case rel => exact ⟨i' + 1, by omega, by go_num, by rw [HQ2.out], HR4.out⟩
              case measure => simp [intOf]; omega
          · have hie : i' = m := by omega
            subst hie
            by_cases h0 : 64 + i' = 0
            · omega
            · have hb0 : decide (min (64 + i') 64 = 0) = false := by simp <;> omega
              have HB0 := Lib.hid hb0
              have hz : ((((64 : Nat) : Int) + (i' : Int)) == 0) = false := by rw [beq_eq_false_iff_ne]; omega
              have hz2 : ¬ (((64 : Nat) : Int) + (i' : Int)) = 0 := by omega
              clear hb0
              go_wp2_with fail
              refine (rel_empty HI.out).mono ?_
              rintro e w5 ⟨rfl, hr5⟩
              rw [HB0.out]
              have HR5 := Lib.hid hr5
              clear hr5
              go_wp2_with fail
              go_loopw [13] (fun i wr => ∃ p : Nat, p ≤ 80 ∧ i = .int .i64 p ∧ RelM W b bq bt (min (64 + i') 64 - p) wr) (fun i _ => 80 - (intOf i).toNat)
              case atStart => exact ⟨0, Nat.zero_le _, rfl, HR5.out⟩
              case round =>
                obtain ⟨p, hp, rfl, hrp⟩ := hrel
                have HP := Lib.hid hrp
                clear hrp
                by_cases hlt3 : p < 80
                · go_wp2_with fail
                  refine (rel_pop HP.out).mono ?_
                  rintro e w6 ⟨v, c, rfl, hr6⟩
                  have HR6 := Lib.hid hr6
                  clear hr6
                  go_wp2_with fail
                  go_roundw
                  case rel =>
                    simp only [show ((64 : Int) + (i' : Int) == 0) = false from by rw [beq_eq_false_iff_ne]; omega]
                    refine ⟨_, _, _, _, _, _, _, ⟨p + 1, by omega, ?hxa, ?hxb⟩, rfl⟩
                    case hxa => go_num
                    case hxb => have := HR6.out; rwa [Nat.sub_sub] at this
                  case measure => simp [intOf]; omega
                · have hpe : p = 80 := by omega
                  subst hpe
                  have hz0 : min (64 + i') 64 - 80 = 0 := by omega
                  have HZ : Hid (RelM W b bq bt 0 wr) := by
                    have := HP.out
                    rwa [hz0] at this
                  clear hz0
                  have he0 := rel_empty HZ.out
                  have hl0 := fun w' (h : RelM W b bq bt 0 w') => rel_len h
                  simp only [decide_true] at he0
                  go_wp2_with (first | (go_at_call 15; refine he0.mono ?_; rintro e w7 ⟨rfl, hr7⟩) | (go_at_call 12; refine (hl0 _ (by assumption)).mono ?_; rintro e w8 ⟨rfl, hr8⟩))
                  go_ret
                  exact ⟨rfl, rel_ext hr8⟩
      · have HN : Hid (RelM W b bq bt j wr) := by
          show RelM W b bq bt j wr
          have := HJ.out
          rwa [show min j 64 = j by omega] at this
        clear HJ
        go_wp2_with fail
        refine (rel_room HN.out m (by omega)).mono ?_
        rintro e w' ⟨rfl, hr3⟩
        have HR3 := Lib.hid hr3
        clear HN hr3
        go_wp2_with fail
        go_loopw [11, 12] (fun f i wr => ∃ i' : Nat, i' ≤ m ∧ i = .int .i64 i' ∧ f = .bool (decide (((j : Nat) : Int) + (i' : Int) ≤ 64)) ∧ RelM W b bq bt (min (j + i') 64) wr) (fun _ i _ => m - (intOf i).toNat)
        case atStart => exact ⟨0, Nat.zero_le _, rfl, congrArg Value.bool (by simp; try omega), by rw [show min (j + 0) 64 = j by omega]; exact HR3.out⟩
        case round =>
          obtain ⟨i', hi', rfl, rfl, hri⟩ := hrel
          have HI := Lib.hid hri
          clear hri
          by_cases hlt2 : i' < m
          · have hd1 : (if min (j + i') 64 < 64 then (0 : Int) else 21) = if j + i' < 64 then 0 else 21 := by
              by_cases h : j + i' < 64
              · rw [if_pos h, if_pos (by omega)]
              · rw [if_neg h, if_neg (by omega)]
            have hst : RelM W b bq bt (if min (j + i') 64 < 64 then min (j + i') 64 + 1 else min (j + i') 64) = RelM W b bq bt (min (j + (i' + 1)) 64) := by
              congr 1
              split <;> omega
            have HD1 := Lib.hid hd1
            have HST := Lib.hid hst
            clear hd1 hst
            go_wp2_with fail
            refine (rel_push HI.out _ [] (nil_bytes wr) (by simp)).mono ?_
            rintro e w4 ⟨rfl, hr4⟩
            rw [HD1.out]
            rw [HST.out] at hr4
            have HR4 := Lib.hid hr4
            clear hr4
            by_cases hful : j + i' < 64
            · have hq1 : decide (((j : Nat) : Int) + (i' : Int) ≤ 64) = true := by simp <;> omega
              rw [if_pos hful, hq1]
              have hq2 : decide (((j : Nat) : Int) + ((i' + 1 : Nat) : Int) ≤ 64) = true := by simp <;> omega
              have HQ2 := Lib.hid hq2
              clear hq1 hq2
              go_wp2_with fail
              go_roundw
              case rel => exact ⟨i' + 1, by omega, by go_num, by rw [HQ2.out], HR4.out⟩
              case measure => simp [intOf]; omega
            · rw [if_neg hful]
              have hq2 : decide (((j : Nat) : Int) + ((i' + 1 : Nat) : Int) ≤ 64) = false := by simp <;> omega
              have HQ2 := Lib.hid hq2
              clear hq2
              go_wp2_with fail
              go_roundw
              case rel => exact ⟨i' + 1, by omega, by go_num, by rw [HQ2.out], HR4.out⟩
              case measure => simp [intOf]; omega
          · have hie : i' = m := by omega
            subst hie
            by_cases h0 : j + i' = 0
            · have hb0 : decide (min (j + i') 64 = 0) = true := by simp <;> omega
              have HB0 := Lib.hid hb0
              have hz : ((((j : Nat) : Int) + (i' : Int)) == 0) = true := by rw [beq_iff_eq]; omega
              have hz2 : (((j : Nat) : Int) + (i' : Int)) = 0 := by omega
              clear hb0
              go_wp2_with fail
              refine (rel_empty HI.out).mono ?_
              rintro e w5 ⟨rfl, hr5⟩
              rw [HB0.out]
              have HR5 := Lib.hid hr5
              clear hr5
              go_wp2_with fail
              go_loopw [13] (fun i wr => ∃ p : Nat, p ≤ 80 ∧ i = .int .i64 p ∧ RelM W b bq bt (min (j + i') 64 - p) wr) (fun i _ => 80 - (intOf i).toNat)
              case atStart => exact ⟨0, Nat.zero_le _, rfl, HR5.out⟩
              case round =>
                obtain ⟨p, hp, rfl, hrp⟩ := hrel
                have HP := Lib.hid hrp
                clear hrp
                by_cases hlt3 : p < 80
                · go_wp2_with fail
                  refine (rel_pop HP.out).mono ?_
                  rintro e w6 ⟨v, c, rfl, hr6⟩
                  have HR6 := Lib.hid hr6
                  clear hr6
                  go_wp2_with fail
                  go_roundw
                  case rel => exact ⟨p + 1, by omega, by go_num, by have := HR6.out; rwa [Nat.sub_sub] at this⟩
                  case measure => simp [intOf]; omega
                · have hpe : p = 80 := by omega
                  subst hpe
                  have hz0 : min (j + i') 64 - 80 = 0 := by omega
                  have HZ : Hid (RelM W b bq bt 0 wr) := by
                    have := HP.out
                    rwa [hz0] at this
                  clear hz0
                  have he0 := rel_empty HZ.out
                  have hl0 := fun w' (h : RelM W b bq bt 0 w') => rel_len h
                  simp only [decide_true] at he0
                  go_wp2_with (first | (go_at_call 15; refine he0.mono ?_; rintro e w7 ⟨rfl, hr7⟩) | (go_at_call 12; refine (hl0 _ (by assumption)).mono ?_; rintro e w8 ⟨rfl, hr8⟩))
                  go_ret
                  exact ⟨rfl, rel_ext hr8⟩
            · have hb0 : decide (min (j + i') 64 = 0) = false := by simp <;> omega
              have HB0 := Lib.hid hb0
              have hz : ((((j : Nat) : Int) + (i' : Int)) == 0) = false := by rw [beq_eq_false_iff_ne]; omega
              have hz2 : ¬ (((j : Nat) : Int) + (i' : Int)) = 0 := by omega
              clear hb0
              go_wp2_with fail
              refine (rel_empty HI.out).mono ?_
              rintro e w5 ⟨rfl, hr5⟩
              rw [HB0.out]
              have HR5 := Lib.hid hr5
              clear hr5
              go_wp2_with fail
              go_loopw [13] (fun i wr => ∃ p : Nat, p ≤ 80 ∧ i = .int .i64 p ∧ RelM W b bq bt (min (j + i') 64 - p) wr) (fun i _ => 80 - (intOf i).toNat)
              case atStart => exact ⟨0, Nat.zero_le _, rfl, HR5.out⟩
              case round =>
                obtain ⟨p, hp, rfl, hrp⟩ := hrel
                have HP := Lib.hid hrp
                clear hrp
                by_cases hlt3 : p < 80
                · go_wp2_with fail
                  refine (rel_pop HP.out).mono ?_
                  rintro e w6 ⟨v, c, rfl, hr6⟩
                  have HR6 := Lib.hid hr6
                  clear hr6
                  go_wp2_with fail
                  go_roundw
                  case rel => exact ⟨p + 1, by omega, by go_num, by have := HR6.out; rwa [Nat.sub_sub] at this⟩
                  case measure => simp [intOf]; omega
                · have hpe : p = 80 := by omega
                  subst hpe
                  have hz0 : min (j + i') 64 - 80 = 0 := by omega
                  have HZ : Hid (RelM W b bq bt 0 wr) := by
                    have := HP.out
                    rwa [hz0] at this
                  clear hz0
                  have he0 := rel_empty HZ.out
                  have hl0 := fun w' (h : RelM W b bq bt 0 w') => rel_len h
                  simp only [decide_true] at he0
                  go_wp2_with (first | (go_at_call 15; refine he0.mono ?_; rintro e w7 ⟨rfl, hr7⟩) | (go_at_call 12; refine (hl0 _ (by assumption)).mono ?_; rintro e w8 ⟨rfl, hr8⟩))
                  go_ret
                  exact ⟨rfl, rel_ext hr8⟩

end Go.Proofs.Ytjpkhediolahaaa
