/- QueuesOrder: what the law holds in its rounds. -/
import Derived.Test.YtjpkhediolahaaaQm
import Derived.Test.YtjpkhediolahaaaOpen
set_option linter.unusedVariables false
set_option linter.unusedSimpArgs false
set_option linter.unusedSectionVars false
set_option linter.unnecessarySimpa false
namespace Go.Proofs.Ytjpkhediolahaaa
open Go.RowKit Go.Mk Go.Maps

/-- The rows, and where element i lies. -/
theorem rows_elem {w : World} {v : Value} {rows : List (List UInt8)} (h : RowsAt w v rows) : ∃ a cap, v = .slice a rows.length cap ∧ rows.length ≤ cap ∧ cap ≤ maxLen ∧ (a = none → cap = 0) ∧
    ∀ ad, a = some ad → ∀ i (hi : i < rows.length), ∃ x, w.cell? (ad.add i) = some x ∧ BytesAt w x rows[i] := by
  obtain ⟨vs, ⟨hl, a, cap, rfl, h1, h2, h3, h4⟩, h5⟩ := h
  refine ⟨a, cap, rfl, h1, h2, h3, fun ad had i hi => ?_⟩
  have hi' : i < vs.length := by omega
  exact ⟨vs[i], h4 ad had i _ (List.getElem?_eq_getElem hi'), h5 i _ _ (List.getElem?_eq_getElem hi') (List.getElem?_eq_getElem hi)⟩

/-- The queue that the law looks at. -/
def way0 : Way := (1, 2, 3)
theorem way0_ok : wayOk way0 := wok _ _ _ (by omega) (by omega) (by omega)
theorem way0_is : isB 4 way0 = true := rfl

/-- In memory: the net that was made, holding rows lo .. hi of the batches in the queue looked at; and the batches. -/
def OrdM (W : World) (b bq bt : Nat) (lv : Value) (rows : List (List UInt8)) (lo hi : Nat) (w : World) : Prop :=
  ∃ s, NetM W w b bq bt 4 s ∧ s.q way0 = ((rows.take hi).drop lo).map shortOf ∧ RowsAt w lv rows

theorem ord_ext {W w : World} {b bq bt lo hi : Nat} {lv : Value} {rows : List (List UInt8)} (h : OrdM W b bq bt lv rows lo hi w) : Ext Nope W w := by
  obtain ⟨s, h1, _⟩ := h
  exact h1.ext
theorem ord_on {W w w' : World} {b bq bt lo hi : Nat} {lv : Value} {rows : List (List UInt8)} (h : OrdM W b bq bt lv rows lo hi w) (he : Ext Nope w w') : OrdM W b bq bt lv rows lo hi w' := by
  obtain ⟨s, h1, h2, h3⟩ := h
  exact ⟨s, h1.on he, h2, h3.extM he.nope (M := Nope) (fun _ h => h.elim)⟩
theorem ord_rows {W w : World} {b bq bt lo hi : Nat} {lv : Value} {rows : List (List UInt8)} (h : OrdM W b bq bt lv rows lo hi w) : RowsAt w lv rows := by
  obtain ⟨s, _, _, h3⟩ := h
  exact h3
theorem ord_new (W w : World) (he : Ext Nope W w) {lv : Value} {rows : List (List UInt8)} (hr : RowsAt W lv rows) :
    Calls Try.prog 8 #[.int .i64 4] w fun e w' => ∃ b bq bt, e = .returned (.pointer (some ⟨b, 0, none⟩)) ∧ OrdM W b bq bt lv rows 0 0 w' := by
  refine (new_law 4 w).mono ?_
  rintro e w' ⟨b, bq, bt, rfl, h⟩
  have hx : Ext Nope W w' := he.trans h.ext
  exact ⟨b, bq, bt, rfl, NS.none, ⟨h.net, Nat.le_trans he.size h.nb, Nat.le_trans he.size h.nq, Nat.le_trans he.size h.nt, h.ok, hx⟩, rfl, hr.extM hx (fun _ h => h.elim)⟩

theorem ord_push {W w : World} {b bq bt i : Nat} {lv : Value} {rows : List (List UInt8)} (h : OrdM W b bq bt lv rows 0 (min i 64) w) (hi : i < rows.length) (v : Value) (hv : BytesAt w v (shortOf rows[i])) :
    Calls Try.prog 9 #[.pointer (some ⟨b, 0, none⟩), .int .i64 1, .int .i64 2, .int .i64 3, v] w fun e w' =>
      e = .returned (.int .i64 (if i < 64 then 0 else 21)) ∧ OrdM W b bq bt lv rows 0 (min (i + 1) 64) w' := by
  obtain ⟨s, h1, h2, h3⟩ := h
  have hm := h1.maps
  refine (push_law h1 1 2 3 v _ way0_ok hv (shortOf_len _)).mono ?_
  rintro e w' ⟨rfl, h4, h5⟩
  have h3' := h3.extM h5 hm
  have hl : (s.q way0).length = min i 64 := by rw [h2]; simp; omega
  have hl' : (s.q (1, 2, 3)).length = min i 64 := hl
  have his : isB 4 (1, 2, 3) = true := rfl
  unfold pushM at h4 ⊢
  rw [his, if_pos rfl] at h4 ⊢
  by_cases hn : i < 64
  · rw [if_neg (by omega)] at h4 ⊢
    rw [if_pos hn]
    refine ⟨rfl, _, h4, ?_, h3'⟩
    rw [show min (i + 1) 64 = i + 1 by omega]
    show upd s.q (1, 2, 3) (s.q (1, 2, 3) ++ [shortOf rows[i]]) (1, 2, 3) = _
    rw [upd_same]
    have e2 : s.q (1, 2, 3) = ((rows.take i).drop 0).map shortOf := by
      have := h2
      rwa [show min i 64 = i by omega] at this
    rw [e2]
    simp only [List.drop_zero]
    rw [List.take_succ_eq_append_getElem hi, List.map_append]
    rfl
  · rw [if_pos (by omega)] at h4 ⊢
    rw [if_neg hn]
    refine ⟨rfl, s, h4, ?_, h3'⟩
    rw [show min (i + 1) 64 = min i 64 by omega]
    exact h2

theorem ord_other {W w : World} {b bq bt lo hi : Nat} {lv : Value} {rows : List (List UInt8)} (h : OrdM W b bq bt lv rows lo hi w) (c f t : Int) (hx : wayOk (c, f, t)) (hne : (c, f, t) ≠ way0) (v : Value) (bs : List UInt8) (hv : BytesAt w v bs) (hb : bs.length ≤ 100000) :
    Calls Try.prog 9 #[.pointer (some ⟨b, 0, none⟩), .int .i64 c, .int .i64 f, .int .i64 t, v] w fun e w' => (∃ n, e = .returned (.int .i64 n)) ∧ OrdM W b bq bt lv rows lo hi w' := by
  obtain ⟨s, h1, h2, h3⟩ := h
  have hm := h1.maps
  refine (push_law h1 c f t v _ hx hv hb).mono ?_
  rintro e w' ⟨rfl, h4, h5⟩
  refine ⟨⟨_, rfl⟩, _, h4, ?_, h3.extM h5 hm⟩
  unfold pushM
  split
  · split
    · exact h2
    · show upd s.q (c, f, t) _ way0 = _
      rw [upd_other _ _ (fun e => hne e.symm)]
      exact h2
  · exact h2

theorem ord_pop {W w : World} {b bq bt lo hi : Nat} {lv : Value} {rows : List (List UInt8)} (h : OrdM W b bq bt lv rows lo hi w) (hlo : lo < hi) (hh : hi ≤ rows.length) :
    Calls Try.prog 11 #[.pointer (some ⟨b, 0, none⟩), .int .i64 1, .int .i64 2, .int .i64 3] w fun e w' =>
      ∃ v, e = .returned (.tuple #[v, .int .i64 0]) ∧ BytesAt w' v (shortOf (rows[lo]'(by omega))) ∧ OrdM W b bq bt lv rows (lo + 1) hi w' := by
  obtain ⟨s, h1, h2, h3⟩ := h
  have hm := h1.maps
  have e2 : s.q (1, 2, 3) = shortOf (rows[lo]'(by omega)) :: ((rows.take hi).drop (lo + 1)).map shortOf := by
    have e3 : s.q (1, 2, 3) = ((rows.take hi).drop lo).map shortOf := h2
    rw [e3, List.drop_eq_getElem_cons (by simp; omega), List.map_cons, List.getElem_take]
  have his : isB 4 (1, 2, 3) = true := rfl
  refine (pop_law h1 1 2 3 way0_ok).mono ?_
  rintro e w' ⟨v, rfl, ho, h4, h5⟩
  unfold popM at ho h4 ⊢
  rw [his, if_pos rfl, e2] at ho h4 ⊢
  exact ⟨v, rfl, SliceAt.of_own ho, _, h4, (by show upd s.q (1, 2, 3) _ (1, 2, 3) = _; exact upd_same _ _ _), h3.extM h5 hm⟩

theorem ord_done {W w : World} {b bq bt hi : Nat} {lv : Value} {rows : List (List UInt8)} (h : OrdM W b bq bt lv rows hi hi w) :
    Calls Try.prog 11 #[.pointer (some ⟨b, 0, none⟩), .int .i64 1, .int .i64 2, .int .i64 3] w fun e w' =>
      ∃ v, e = .returned (.tuple #[v, .int .i64 27]) ∧ OrdM W b bq bt lv rows hi hi w' := by
  obtain ⟨s, h1, h2, h3⟩ := h
  have hm := h1.maps
  have e2 : s.q (1, 2, 3) = [] := by
    have e3 : s.q (1, 2, 3) = ((rows.take hi).drop hi).map shortOf := h2
    rw [e3, List.drop_eq_nil_of_le (by simp; omega)]
    rfl
  have his : isB 4 (1, 2, 3) = true := rfl
  refine (pop_law h1 1 2 3 way0_ok).mono ?_
  rintro e w' ⟨v, rfl, ho, h4, h5⟩
  unfold popM at ho h4 ⊢
  rw [his, if_pos rfl, e2] at ho h4 ⊢
  exact ⟨v, rfl, s, h4, h2, h3.extM h5 hm⟩

theorem ord_len {W w : World} {b bq bt hi : Nat} {lv : Value} {rows : List (List UInt8)} (h : OrdM W b bq bt lv rows hi hi w) :
    Calls Try.prog 12 #[.pointer (some ⟨b, 0, none⟩), .int .i64 1, .int .i64 2, .int .i64 3] w fun e w' => e = .returned (.int .i64 0) ∧ OrdM W b bq bt lv rows hi hi w' := by
  obtain ⟨s, h1, h2, h3⟩ := h
  have hm := h1.maps
  have e2 : s.q (1, 2, 3) = [] := by
    have e3 : s.q (1, 2, 3) = ((rows.take hi).drop hi).map shortOf := h2
    rw [e3, List.drop_eq_nil_of_le (by simp; omega)]
    rfl
  refine (len_law h1 1 2 3 way0_ok).mono ?_
  rintro e w' ⟨rfl, h4, h5⟩
  rw [e2]
  exact ⟨rfl, s, h4, h2, h3.extM h5 hm⟩
end Go.Proofs.Ytjpkhediolahaaa
