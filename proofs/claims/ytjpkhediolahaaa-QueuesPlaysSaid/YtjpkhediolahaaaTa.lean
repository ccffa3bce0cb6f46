/- QueuesTurn: what the law holds, and what each call does to it. -/
import Derived.Test.YtjpkhediolahaaaOa
set_option linter.unusedVariables false
set_option linter.unusedSimpArgs false
set_option linter.unusedSectionVars false
set_option linter.unnecessarySimpa false
namespace Go.Proofs.Ytjpkhediolahaaa
open Go.RowKit Go.Mk Go.Maps

def way1 : Way := (0, 1, 2)
theorem way1_ok : wayOk (0, 1, 2) := wok _ _ _ (by omega) (by omega) (by omega)
theorem way1_is : isB 3 (0, 1, 2) = true := rfl

/-- Turn by the batches of the one queue: code, batches, turned. -/
def turnC (q : List (List UInt8)) (tn : Int) (k : Int) : Int × List (List UInt8) × Int :=
  match q with
  | [] => (27, [], tn)
  | b :: r => if k < 0 ∨ (b.length : Int) ≤ k ∨ 0 < tn then (1, b :: r, tn) else (0, turnAt k.toNat b :: r, 1)

/-- The three ints of the argument, boxed in block B. -/
def XAt (w : World) (B : Nat) (c f t : Int) : Prop := w.cell? ⟨B, 0, none⟩ = some (.int .i64 c) ∧ w.cell? ⟨B, 1, none⟩ = some (.int .i64 f) ∧ w.cell? ⟨B, 2, none⟩ = some (.int .i64 t)
theorem XAt.extM {M : Nat → Prop} {w w' : World} {B : Nat} {c f t : Int} (h : XAt w B c f t) (he : Ext M w w') (hM : OnMaps M w) : XAt w' B c f t :=
  ⟨he.cell h.1 (hM.cell h.1), he.cell h.2.1 (hM.cell h.2.1), he.cell h.2.2 (hM.cell h.2.2)⟩

structure TurnW where
  W : World
  b : Nat
  bq : Nat
  bt : Nat
  lv : Value
  rows : List (List UInt8)
  B : Nat
  c : Int
  f : Int
  t : Int

def PT (T : TurnW) (q : List (List UInt8)) (tn : Int) (w : World) : Prop :=
  ∃ s, NetM T.W w T.b T.bq T.bt 3 s ∧ s.q (0, 1, 2) = q ∧ s.tn (0, 1, 2) = tn ∧ (∀ y, y ≠ (0, 1, 2) → s.q y = []) ∧ RowsAt w T.lv T.rows ∧ XAt w T.B T.c T.f T.t

variable {T : TurnW} {q : List (List UInt8)} {tn : Int} {w w' : World}

theorem pt_ext (h : PT T q tn w) : Ext Nope T.W w := by
  obtain ⟨s, h1, _⟩ := h
  exact h1.ext
theorem pt_on (h : PT T q tn w) (he : Ext Nope w w') : PT T q tn w' := by
  obtain ⟨s, h1, h2, h3, h4, h5, h6⟩ := h
  exact ⟨s, h1.on he, h2, h3, h4, h5.extM he.nope (M := Nope) (fun _ h => h.elim), h6.extM he.nope (M := Nope) (fun _ h => h.elim)⟩
theorem pt_rows (h : PT T q tn w) : RowsAt w T.lv T.rows := by
  obtain ⟨s, _, _, _, _, h, _⟩ := h
  exact h
theorem pt_x (h : PT T q tn w) : XAt w T.B T.c T.f T.t := by
  obtain ⟨s, _, _, _, _, _, h⟩ := h
  exact h

theorem pt_new (W w : World) (he : Ext Nope W w) {lv : Value} {rows : List (List UInt8)} (hr : RowsAt W lv rows) {B : Nat} {c f t : Int} (hx : XAt w B c f t) :
    Calls Try.prog 8 #[.int .i64 3] w fun e w' => ∃ b bq bt, e = .returned (.pointer (some ⟨b, 0, none⟩)) ∧ PT ⟨W, b, bq, bt, lv, rows, B, c, f, t⟩ [] 0 w' := by
  refine (new_law 3 w).mono ?_
  rintro e w' ⟨b, bq, bt, rfl, h⟩
  have hx' : Ext Nope W w' := he.trans h.ext
  exact ⟨b, bq, bt, rfl, NS.none, ⟨h.net, Nat.le_trans he.size h.nb, Nat.le_trans he.size h.nq, Nat.le_trans he.size h.nt, h.ok, hx'⟩, rfl, rfl, fun _ _ => rfl, hr.extM hx' (fun _ h => h.elim), hx.extM h.ext (fun _ h => h.elim)⟩

theorem pt_push (h : PT T q tn w) (v : Value) (bs : List UInt8) (hv : BytesAt w v bs) (hb : bs.length ≤ 100000) (hq : q.length < 64) :
    Calls Try.prog 9 #[.pointer (some ⟨T.b, 0, none⟩), .int .i64 0, .int .i64 1, .int .i64 2, v] w fun e w' => (∃ n, e = .returned (.int .i64 n)) ∧ PT T (q ++ [bs]) tn w' := by
  obtain ⟨s, h1, h2, h3, h4, h5, h6⟩ := h
  have hm := h1.maps
  refine (push_law h1 0 1 2 v bs way1_ok hv hb).mono ?_
  rintro e w' ⟨rfl, g1, g2⟩
  unfold pushM at g1 ⊢
  rw [way1_is, if_pos rfl, if_neg (by rw [h2]; omega)] at g1 ⊢
  refine ⟨⟨_, rfl⟩, _, g1, ?_, h3, fun y hy => ?_, h5.extM g2 hm, h6.extM g2 hm⟩
  · simp [upd, h2]
  · show upd s.q (0, 1, 2) _ y = _
    rw [upd_other _ _ hy]
    exact h4 y hy

theorem pt_turn (h : PT T q tn w) (k : Int) :
    Calls Try.prog 16 #[.pointer (some ⟨T.b, 0, none⟩), .int .i64 0, .int .i64 1, .int .i64 2, .int .i64 k] w fun e w' =>
      e = .returned (.int .i64 (turnC q tn k).1) ∧ PT T (turnC q tn k).2.1 (turnC q tn k).2.2 w' := by
  obtain ⟨s, h1, h2, h3, h4, h5, h6⟩ := h
  have hm := h1.maps
  refine (turn_law h1 0 1 2 k way1_ok).mono ?_
  rintro e w' ⟨rfl, g1, g2⟩
  unfold turnM at g1 ⊢
  unfold turnC
  rw [way1_is, if_pos rfl, h2, h3] at g1 ⊢
  have g5 := h5.extM g2 hm
  have g6 := h6.extM g2 hm
  cases q with
  | nil => exact ⟨rfl, s, g1, h2, h3, h4, g5, g6⟩
  | cons b r =>
    simp only at g1 ⊢
    by_cases hk : k < 0 ∨ (b.length : Int) ≤ k ∨ 0 < tn
    · simp only [if_pos hk] at g1 ⊢
      exact ⟨trivial, s, g1, h2, h3, h4, g5, g6⟩
    · simp only [if_neg hk] at g1 ⊢
      refine ⟨trivial, _, g1, by simp [upd], by simp [upd], fun y hy => ?_, g5, g6⟩
      show upd s.q (0, 1, 2) _ y = _
      rw [upd_other _ _ hy]
      exact h4 y hy

/-- What is read stays. -/
def Keeps (w w' : World) : Prop := (∀ a v, w.cell? a = some v → w'.cell? a = some v) ∧ ∀ v bs, BytesAt w v bs → BytesAt w' v bs
theorem pt_turn_keeps (h : PT T q tn w) (k : Int) :
    Calls Try.prog 16 #[.pointer (some ⟨T.b, 0, none⟩), .int .i64 0, .int .i64 1, .int .i64 2, .int .i64 k] w fun e w' =>
      e = .returned (.int .i64 (turnC q tn k).1) ∧ PT T (turnC q tn k).2.1 (turnC q tn k).2.2 w' ∧ Keeps w w' := by
  obtain ⟨s, h1, h2, h3, h4, h5, h6⟩ := h
  have hm := h1.maps
  refine (turn_law h1 0 1 2 k way1_ok).mono ?_
  rintro e w' ⟨rfl, g1, g2⟩
  unfold turnM at g1 ⊢
  unfold turnC
  rw [way1_is, if_pos rfl, h2, h3] at g1 ⊢
  have g5 := h5.extM g2 hm
  have g6 := h6.extM g2 hm
  have hkp : Keeps w w' := ⟨fun a v hv => g2.cell hv (hm.cell hv), fun v bs hv => BytesAt.extM hv g2 hm⟩
  cases q with
  | nil => exact ⟨rfl, ⟨s, g1, h2, h3, h4, g5, g6⟩, hkp⟩
  | cons b r =>
    simp only at g1 ⊢
    by_cases hk : k < 0 ∨ (b.length : Int) ≤ k ∨ 0 < tn
    · simp only [if_pos hk] at g1 ⊢
      exact ⟨trivial, ⟨s, g1, h2, h3, h4, g5, g6⟩, hkp⟩
    · simp only [if_neg hk] at g1 ⊢
      refine ⟨trivial, ⟨_, g1, by simp [upd], by simp [upd], fun y hy => ?_, g5, g6⟩, hkp⟩
      show upd s.q (0, 1, 2) _ y = _
      rw [upd_other _ _ hy]
      exact h4 y hy

theorem pt_peek (h : PT T q tn w) (k : Nat) (hk : k < q.length) :
    Calls Try.prog 17 #[.pointer (some ⟨T.b, 0, none⟩), .int .i64 0, .int .i64 1, .int .i64 2, .int .i64 k] w fun e w' =>
      ∃ v, e = .returned (.tuple #[v, .int .i64 0]) ∧ BytesAt w' v (q.getD k []) ∧ PT T q tn w' := by
  obtain ⟨s, h1, h2, h3, h4, h5, h6⟩ := h
  have hm := h1.maps
  refine (peek_law h1 0 1 2 k way1_ok).mono ?_
  rintro e w' ⟨v, rfl, ho, g1, g2⟩
  unfold peekM at ho ⊢
  rw [way1_is, if_pos rfl, if_pos (by omega), h2, Int.toNat_natCast, List.getElem?_eq_getElem hk] at ho ⊢
  refine ⟨v, rfl, ?_, s, g1, h2, h3, h4, h5.extM g2 hm, h6.extM g2 hm⟩
  rw [show q.getD k [] = q[k] from by simp [List.getD, List.getElem?_eq_getElem hk]]
  exact SliceAt.of_own ho

theorem pt_pop (h : PT T q tn w) :
    Calls Try.prog 11 #[.pointer (some ⟨T.b, 0, none⟩), .int .i64 0, .int .i64 1, .int .i64 2] w fun e w' =>
      ∃ v c, e = .returned (.tuple #[v, .int .i64 c]) ∧ PT T q.tail (if q = [] then tn else 0) w' := by
  obtain ⟨s, h1, h2, h3, h4, h5, h6⟩ := h
  have hm := h1.maps
  refine (pop_law h1 0 1 2 way1_ok).mono ?_
  rintro e w' ⟨v, rfl, ho, g1, g2⟩
  unfold popM at g1 ⊢
  rw [way1_is, if_pos rfl, h2] at g1 ⊢
  have g5 := h5.extM g2 hm
  have g6 := h6.extM g2 hm
  cases q with
  | nil => exact ⟨v, _, rfl, s, g1, h2, h3, h4, g5, g6⟩
  | cons b r =>
    rw [if_neg (by simp)]
    refine ⟨v, _, rfl, _, g1, by simp [upd], by simp [upd], fun y hy => ?_, g5, g6⟩
    show upd s.q (0, 1, 2) _ y = _
    rw [upd_other _ _ hy]
    exact h4 y hy

/-- The queue that the argument names is one. -/
def inX (c f t : Int) : Bool := isB 3 (c, f, t)

theorem pt_room (h : PT T q tn w) (c f t : Int) (hx : wayOk (c, f, t)) :
    Calls Try.prog 14 #[.pointer (some ⟨T.b, 0, none⟩), .int .i64 c, .int .i64 f, .int .i64 t, .int .i64 0] w fun e w' => e = .returned (.bool (isB 3 (c, f, t))) ∧ PT T q tn w' := by
  obtain ⟨s, h1, h2, h3, h4, h5, h6⟩ := h
  have hm := h1.maps
  refine (room_law h1 c f t 0 hx).mono ?_
  rintro e w' ⟨rfl, g1, g2⟩
  have hr : roomB 3 s.q (c, f, t) 0 = isB 3 (c, f, t) := by
    unfold roomB
    have := (h1.ok (c, f, t)).1
    rw [decide_eq_true (by omega : (0 : Int) ≤ 64 - ((s.q (c, f, t)).length : Int))]
    simp
  rw [hr]
  exact ⟨rfl, s, g1, h2, h3, h4, h5.extM g2 hm, h6.extM g2 hm⟩

theorem pt_outpop (h : PT T q tn w) (c f t : Int) (hx : wayOk (c, f, t)) (ho : isB 3 (c, f, t) = false) :
    Calls Try.prog 11 #[.pointer (some ⟨T.b, 0, none⟩), .int .i64 c, .int .i64 f, .int .i64 t] w fun e w' => ∃ v, e = .returned (.tuple #[v, .int .i64 1]) ∧ PT T q tn w' := by
  obtain ⟨s, h1, h2, h3, h4, h5, h6⟩ := h
  have hm := h1.maps
  refine (pop_law h1 c f t hx).mono ?_
  rintro e w' ⟨v, rfl, _, g1, g2⟩
  unfold popM at g1 ⊢
  rw [ho, if_neg (by simp)] at g1 ⊢
  exact ⟨v, rfl, s, g1, h2, h3, h4, h5.extM g2 hm, h6.extM g2 hm⟩
theorem pt_outpush (h : PT T q tn w) (c f t : Int) (hx : wayOk (c, f, t)) (ho : isB 3 (c, f, t) = false) :
    Calls Try.prog 9 #[.pointer (some ⟨T.b, 0, none⟩), .int .i64 c, .int .i64 f, .int .i64 t, .slice none 0 0] w fun e w' => e = .returned (.int .i64 1) ∧ PT T q tn w' := by
  obtain ⟨s, h1, h2, h3, h4, h5, h6⟩ := h
  have hm := h1.maps
  refine (push_law h1 c f t _ [] hx (SliceAt.nil w 1) (by simp)).mono ?_
  rintro e w' ⟨rfl, g1, g2⟩
  unfold pushM at g1 ⊢
  rw [ho, if_neg (by simp)] at g1 ⊢
  exact ⟨rfl, s, g1, h2, h3, h4, h5.extM g2 hm, h6.extM g2 hm⟩
theorem pt_outturn (h : PT T q tn w) (c f t : Int) (hx : wayOk (c, f, t)) (ho : isB 3 (c, f, t) = false) :
    Calls Try.prog 16 #[.pointer (some ⟨T.b, 0, none⟩), .int .i64 c, .int .i64 f, .int .i64 t, .int .i64 0] w fun e w' => e = .returned (.int .i64 1) ∧ PT T q tn w' := by
  obtain ⟨s, h1, h2, h3, h4, h5, h6⟩ := h
  have hm := h1.maps
  refine (turn_law h1 c f t 0 hx).mono ?_
  rintro e w' ⟨rfl, g1, g2⟩
  unfold turnM at g1 ⊢
  rw [ho, if_neg (by simp)] at g1 ⊢
  exact ⟨rfl, s, g1, h2, h3, h4, h5.extM g2 hm, h6.extM g2 hm⟩
theorem pt_outlen (h : PT T q tn w) (c f t : Int) (hx : wayOk (c, f, t)) (ho : isB 3 (c, f, t) = false) :
    Calls Try.prog 12 #[.pointer (some ⟨T.b, 0, none⟩), .int .i64 c, .int .i64 f, .int .i64 t] w fun e w' => e = .returned (.int .i64 0) ∧ PT T q tn w' := by
  obtain ⟨s, h1, h2, h3, h4, h5, h6⟩ := h
  have hm := h1.maps
  refine (len_law h1 c f t hx).mono ?_
  rintro e w' ⟨rfl, g1, g2⟩
  rw [h4 (c, f, t) (fun e => by rw [e] at ho; exact absurd ho (by simp [way1_is]))]
  exact ⟨rfl, s, g1, h2, h3, h4, h5.extM g2 hm, h6.extM g2 hm⟩

/-- The batches behind the turning. -/
def qOf (rows : List (List UInt8)) (m : Bool) (k : Int) : List (List UInt8) :=
  match (rows.take 20).map shortOf with
  | [] => []
  | b :: r => (if m then turnAt k.toNat b else b) :: r
def mayB (rows : List (List UInt8)) (k : Int) : Bool :=
  match rows with
  | [] => false
  | b :: _ => decide (0 ≤ k ∧ k < ((shortOf b).length : Int))

theorem qOf_length (rows : List (List UInt8)) (m : Bool) (k : Int) : (qOf rows m k).length = min rows.length 20 := by
  unfold qOf
  cases rows with
  | nil => rfl
  | cons b r =>
    simp
    omega
theorem qOf_tail (rows : List (List UInt8)) (m : Bool) (k : Int) : (qOf rows m k).tail = ((rows.take 20).drop 1).map shortOf := by
  unfold qOf
  cases rows with
  | nil => rfl
  | cons b r => simp
theorem qOf_zero (rows : List (List UInt8)) (m : Bool) (k : Int) (h : 0 < rows.length) : (qOf rows m k).getD 0 [] = if m then turnAt k.toNat (shortOf (rows.getD 0 [])) else shortOf (rows.getD 0 []) := by
  unfold qOf
  cases rows with
  | nil => simp at h
  | cons b r => simp
theorem qOf_pos (rows : List (List UInt8)) (m : Bool) (k : Int) (i : Nat) (h0 : 0 < i) (hi : i < min rows.length 20) : (qOf rows m k).getD i [] = shortOf (rows.getD i []) := by
  unfold qOf
  cases rows with
  | nil => simp at hi
  | cons b r =>
    obtain ⟨j, rfl⟩ : ∃ j, i = j + 1 := ⟨i - 1, by omega⟩
    simp only [List.length_cons] at hi
    have : j < r.length := by omega
    have h19 : j < 19 := by omega
    simp [List.getD, List.getElem?_take, h19, List.getElem?_eq_getElem this]
theorem turn_first (rows : List (List UInt8)) (k : Int) : (turnC ((rows.take 20).map shortOf) 0 k).2 = (qOf rows (mayB rows k) k, if mayB rows k then 1 else 0) ∧ ((turnC ((rows.take 20).map shortOf) 0 k).1 == 0) = mayB rows k := by
  unfold turnC qOf mayB
  cases rows with
  | nil => exact ⟨rfl, rfl⟩
  | cons b r =>
    simp only [List.take_succ_cons, List.map_cons]
    by_cases h : 0 ≤ k ∧ k < ((shortOf b).length : Int)
    · simp only [if_neg (show ¬ (k < 0 ∨ ((shortOf b).length : Int) ≤ k ∨ (0 : Int) < 0) by omega), decide_eq_true h]
      exact ⟨rfl, rfl⟩
    · simp only [if_pos (show (k < 0 ∨ ((shortOf b).length : Int) ≤ k ∨ (0 : Int) < 0) by omega), decide_eq_false h]
      exact ⟨rfl, rfl⟩
theorem turn_again {q : List (List UInt8)} (k : Int) (h : q ≠ []) : turnC q 1 k = (1, q, 1) := by
  unfold turnC
  cases q with
  | nil => exact absurd rfl h
  | cons b r =>
    simp only
    rw [if_pos (by omega)]
end Go.Proofs.Ytjpkhediolahaaa
