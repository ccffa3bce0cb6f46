/- The net's calls over a pure model of what it holds, for a net that the law itself made. Conditions: the arguments are ints, a batch has at most 100000 bytes. -/
import Derived.Test.YtjpkhediolahaaaQj
set_option linter.unusedVariables false
set_option linter.unusedSimpArgs false
set_option linter.unusedSectionVars false
set_option linter.unnecessarySimpa false
namespace Go.Proofs.Ytjpkhediolahaaa
open Go.RowKit Go.Mk Go.Maps

/-- What a net holds: rows of batches, and how often the first one was turned. -/
structure NS where
  q : Way → List (List UInt8)
  tn : Way → Int
/-- Within bounds. -/
def NS.ok (s : NS) : Prop := ∀ x, (s.q x).length ≤ 64 ∧ (∀ b ∈ s.q x, b.length ≤ 100000) ∧ (s.tn x = 0 ∨ s.tn x = 1)

def NS.none : NS := ⟨fun _ => [], fun _ => 0⟩
def pushM (N : Int) (s : NS) (x : Way) (bs : List UInt8) : Int × NS :=
  if isB N x then if 64 ≤ (s.q x).length then (21, s) else (0, ⟨upd s.q x (s.q x ++ [bs]), s.tn⟩) else (1, s)
/-- The code, the batch, what is left. -/
def popM (N : Int) (s : NS) (x : Way) : Int × List UInt8 × NS :=
  if isB N x then match s.q x with
    | [] => (27, [], s)
    | b :: r => (0, b, ⟨upd s.q x r, upd s.tn x 0⟩)
  else (1, [], s)
def peekM (N : Int) (s : NS) (x : Way) (k : Int) : Int × List UInt8 :=
  if isB N x then if 0 ≤ k then match (s.q x)[k.toNat]? with
    | some b => (0, b)
    | .none => (27, [])
  else (27, []) else (1, [])
def turnM (N : Int) (s : NS) (x : Way) (k : Int) : Int × NS :=
  if isB N x then match s.q x with
    | [] => (27, s)
    | b :: r => if k < 0 ∨ (b.length : Int) ≤ k ∨ 0 < s.tn x then (1, s) else (0, ⟨upd s.q x (turnAt k.toNat b :: r), upd s.tn x 1⟩)
  else (1, s)

theorem NS.none_ok : NS.none.ok := fun _ => ⟨by simp [NS.none], by simp [NS.none], .inl rfl⟩
theorem pushM_ok {N : Int} {s : NS} {x : Way} {bs : List UInt8} (h : s.ok) (hb : bs.length ≤ 100000) : (pushM N s x bs).2.ok := by
  unfold pushM
  split
  · split
    · exact h
    · intro y
      obtain ⟨h1, h2, h3⟩ := h y
      by_cases e : y = x
      · subst e
        refine ⟨by simp [upd_same]; omega, ?_, h3⟩
        simp only [upd_same]
        intro b hm
        rcases List.mem_append.1 hm with hm | hm
        · exact h2 b hm
        · simp at hm
          subst hm
          exact hb
      · simp only [upd_other _ _ e]
        exact ⟨h1, h2, h3⟩
  · exact h
theorem popM_ok {N : Int} {s : NS} {x : Way} (h : s.ok) : (popM N s x).2.2.ok := by
  unfold popM
  split
  · split
    · exact h
    · rename_i b r hq
      intro y
      obtain ⟨h1, h2, h3⟩ := h y
      by_cases e : y = x
      · subst e
        rw [hq] at h1 h2
        refine ⟨by simp [upd_same] at h1 ⊢; omega, ?_, .inl (by simp [upd_same])⟩
        simp only [upd_same]
        exact fun b' hm => h2 b' (by simp [hm])
      · simp only [upd_other _ _ e]
        exact ⟨h1, h2, h3⟩
  · exact h
theorem turnM_ok {N : Int} {s : NS} {x : Way} {k : Int} (h : s.ok) : (turnM N s x k).2.ok := by
  unfold turnM
  split
  · split
    · exact h
    · rename_i b r hq
      split
      · exact h
      · intro y
        obtain ⟨h1, h2, h3⟩ := h y
        by_cases e : y = x
        · subst e
          rw [hq] at h1 h2
          refine ⟨by simp [upd_same] at h1 ⊢; omega, ?_, .inr (by simp [upd_same])⟩
          simp only [upd_same]
          intro b' hm
          rcases List.mem_cons.1 hm with rfl | hm
          · have := h2 b (by simp)
            simpa [turnAt] using this
          · exact h2 b' (by simp [hm])
        · simp only [upd_other _ _ e]
          exact ⟨h1, h2, h3⟩
  · exact h

/-- A net of the law's own. -/
structure NetM (W w : World) (b bq bt : Nat) (N : Int) (s : NS) : Prop where
  net : NetAt w b bq bt N s.q s.tn
  nb : W.heap.size ≤ b
  nq : W.heap.size ≤ bq
  nt : W.heap.size ≤ bt
  ok : s.ok
  ext : Ext Nope W w

theorem NetM.on {W w w' : World} {b bq bt : Nat} {N : Int} {s : NS} (h : NetM W w b bq bt N s) (he : Ext Nope w w') : NetM W w' b bq bt N s :=
  ⟨h.net.ext he, h.nb, h.nq, h.nt, h.ok, h.ext.trans he⟩
theorem NetM.to {W w w' : World} {b bq bt : Nat} {N : Int} {s s' : NS} (h : NetM W w b bq bt N s) (hn : NetAt w' b bq bt N s'.q s'.tn) (hk : s'.ok) (he : Ext (fun k => k = bq ∨ k = bt) w w') : NetM W w' b bq bt N s' :=
  ⟨hn, h.nb, h.nq, h.nt, hk, h.ext.trans' he (fun k hk => .inr (by have := h.nq; have := h.nt; rcases hk with rfl | rfl <;> assumption))⟩

def Two (bq bt : Nat) : Nat → Prop := fun k => k = bq ∨ k = bt
theorem NetM.maps {W w : World} {b bq bt : Nat} {N : Int} {s : NS} (h : NetM W w b bq bt N s) : OnMaps (Two bq bt) w := by
  rintro k (rfl | rfl)
  · obtain ⟨_, hm, _⟩ := h.net.qm
    exact hm.map
  · obtain ⟨_, hm, _⟩ := h.net.tm
    exact hm.map

/-- What a call that answers a code leaves. -/
def CodeM (W w : World) (b bq bt : Nat) (N : Int) (r : Int × NS) (e : Ending) (w' : World) : Prop := e = .returned (.int .i64 r.1) ∧ NetM W w' b bq bt N r.2 ∧ Ext (Two bq bt) w w'
/-- What a call that answers a batch and a code leaves. -/
def BatchM (W w : World) (b bq bt : Nat) (N : Int) (r : Int × List UInt8 × NS) (e : Ending) (w' : World) : Prop :=
  ∃ v, e = .returned (.tuple #[v, .int .i64 r.1]) ∧ w'.ownsRow w.heap.size 5 1 v r.2.1.length (r.2.1.map byteV) ∧ NetM W w' b bq bt N r.2.2 ∧ Ext (Two bq bt) w w'

theorem new_law (n : Int) (w : World) : Calls Try.prog 8 #[.int .i64 n] w fun e w' => ∃ b bq bt, e = .returned (.pointer (some ⟨b, 0, none⟩)) ∧ NetM w w' b bq bt (min (max n 0) 16) NS.none := by
  refine (new_any n w).mono ?_
  rintro e w' ⟨b, bq, bt, rfl, h1, h2, h3, h4, h5⟩
  exact ⟨b, bq, bt, rfl, h1, h3, h4, h5, NS.none_ok, h2⟩

theorem push_law {W w : World} {b bq bt : Nat} {N : Int} {s : NS} (h : NetM W w b bq bt N s) (c f t : Int) (v : Value) (bs : List UInt8) (hx : wayOk (c, f, t)) (hv : BytesAt w v bs) (hbs : bs.length ≤ 100000) :
    Calls Try.prog 9 #[.pointer (some ⟨b, 0, none⟩), .int .i64 c, .int .i64 f, .int .i64 t, v] w (CodeM W w b bq bt N (pushM N s (c, f, t) bs)) := by
  have hok := pushM_ok (N := N) (x := (c, f, t)) h.ok hbs
  unfold pushM at hok ⊢
  cases hib : isB N (c, f, t)
  · refine (push_none h.net c f t v hib).mono ?_
    rintro e w' ⟨rfl, he⟩
    exact ⟨rfl, h.on he, he.nope⟩
  · rw [hib] at hok
    by_cases hq : 64 ≤ (s.q (c, f, t)).length
    · refine (push_full h.net c f t v hx hib hq).mono ?_
      rintro e w' ⟨rfl, he⟩
      simp only [if_true, if_pos hq]
      exact ⟨rfl, h.on he, he.nope⟩
    · refine (push_yes h.net c f t v bs hx hib (by omega) hv hbs).mono ?_
      rintro e w' ⟨rfl, hn, he⟩
      simp only [if_true, if_neg hq] at hok ⊢
      exact ⟨rfl, h.to hn hok (he.mono fun _ h => .inl h), he.mono fun _ h => .inl h⟩

theorem pop_law {W w : World} {b bq bt : Nat} {N : Int} {s : NS} (h : NetM W w b bq bt N s) (c f t : Int) (hx : wayOk (c, f, t)) :
    Calls Try.prog 11 #[.pointer (some ⟨b, 0, none⟩), .int .i64 c, .int .i64 f, .int .i64 t] w (BatchM W w b bq bt N (popM N s (c, f, t))) := by
  have hok := popM_ok (N := N) (x := (c, f, t)) h.ok
  unfold popM at hok ⊢
  cases hib : isB N (c, f, t)
  · refine (pop_none h.net c f t hib).mono ?_
    rintro e w' ⟨rfl, he⟩
    exact ⟨_, rfl, World.ownsRow_nil _ _ _ _, h.on he, he.nope⟩
  · rw [hib] at hok
    cases hq : s.q (c, f, t) with
    | nil =>
      refine (pop_out h.net c f t hx hib hq).mono ?_
      rintro e w' ⟨rfl, he⟩
      exact ⟨_, rfl, World.ownsRow_nil _ _ _ _, h.on he, he.nope⟩
    | cons bs r =>
      obtain ⟨h1, h2, _⟩ := h.ok (c, f, t)
      refine (pop_yes h.net c f t bs r hx hib hq h1 (h2 bs (by rw [hq]; simp))).mono ?_
      rintro e w' ⟨v, rfl, ho, hn, he⟩
      rw [hq] at hok
      exact ⟨v, rfl, ho, h.to hn hok he, he⟩

theorem peek_law {W w : World} {b bq bt : Nat} {N : Int} {s : NS} (h : NetM W w b bq bt N s) (c f t k : Int) (hx : wayOk (c, f, t)) :
    Calls Try.prog 17 #[.pointer (some ⟨b, 0, none⟩), .int .i64 c, .int .i64 f, .int .i64 t, .int .i64 k] w (BatchM W w b bq bt N ((peekM N s (c, f, t) k).1, (peekM N s (c, f, t) k).2, s)) := by
  obtain ⟨h1, h2, _⟩ := h.ok (c, f, t)
  unfold peekM
  cases hib : isB N (c, f, t)
  · refine (peek_none h.net c f t k hib).mono ?_
    rintro e w' ⟨rfl, he⟩
    exact ⟨_, rfl, World.ownsRow_nil _ _ _ _, h.on he, he.nope⟩
  · by_cases hk : 0 ≤ k
    · obtain ⟨n, rfl⟩ := Int.eq_ofNat_of_zero_le hk
      cases hq : (s.q (c, f, t))[n]? with
      | none =>
        refine (peek_out h.net c f t n hx hib (.inr (by have := List.getElem?_eq_none_iff.1 hq; omega))).mono ?_
        rintro e w' ⟨rfl, he⟩
        simp only [if_true, if_pos hk, Int.toNat_natCast, hq]
        exact ⟨_, rfl, World.ownsRow_nil _ _ _ _, h.on he, he.nope⟩
      | some bs =>
        refine (peek_yes h.net c f t n bs hx h1 hib hq (h2 bs (List.mem_of_getElem? hq))).mono ?_
        rintro e w' ⟨v, rfl, ho, he⟩
        simp only [if_true, if_pos hk, Int.toNat_natCast, hq]
        exact ⟨v, rfl, ho, h.on he, he.nope⟩
    · refine (peek_out h.net c f t k hx hib (.inl (by omega))).mono ?_
      rintro e w' ⟨rfl, he⟩
      simp only [if_true, if_neg hk]
      exact ⟨_, rfl, World.ownsRow_nil _ _ _ _, h.on he, he.nope⟩

theorem turn_law {W w : World} {b bq bt : Nat} {N : Int} {s : NS} (h : NetM W w b bq bt N s) (c f t k : Int) (hx : wayOk (c, f, t)) :
    Calls Try.prog 16 #[.pointer (some ⟨b, 0, none⟩), .int .i64 c, .int .i64 f, .int .i64 t, .int .i64 k] w (CodeM W w b bq bt N (turnM N s (c, f, t) k)) := by
  have hok := turnM_ok (N := N) (x := (c, f, t)) (k := k) h.ok
  obtain ⟨h1, h2, h3⟩ := h.ok (c, f, t)
  unfold turnM at hok ⊢
  cases hib : isB N (c, f, t)
  · refine (turn_none h.net c f t k hib).mono ?_
    rintro e w' ⟨rfl, he⟩
    exact ⟨rfl, h.on he, he.nope⟩
  · rw [hib] at hok
    cases hq : s.q (c, f, t) with
    | nil =>
      refine (turn_empty h.net c f t k hx hib hq).mono ?_
      rintro e w' ⟨rfl, he⟩
      exact ⟨rfl, h.on he, he.nope⟩
    | cons bs r =>
      rw [hq] at hok
      have hbs := h2 bs (by rw [hq]; simp)
      by_cases hno : k < 0 ∨ (bs.length : Int) ≤ k ∨ 0 < s.tn (c, f, t)
      · refine (turn_arg h.net c f t k bs r hx hib hq h1 hbs hno).mono ?_
        rintro e w' ⟨rfl, he⟩
        simp only [if_true, if_pos hno]
        exact ⟨rfl, h.on he, he.nope⟩
      · obtain ⟨n, rfl⟩ := Int.eq_ofNat_of_zero_le (show 0 ≤ k by omega)
        refine (turn_yes h.net c f t n bs r hx hib hq h1 hbs (by omega) (by omega)).mono ?_
        rintro e w' ⟨rfl, hn, he⟩
        simp only [if_true, if_neg hno, Int.toNat_natCast] at hok ⊢
        exact ⟨rfl, h.to hn hok he, he⟩

theorem room_law {W w : World} {b bq bt : Nat} {N : Int} {s : NS} (h : NetM W w b bq bt N s) (c f t k : Int) (hx : wayOk (c, f, t)) :
    Calls Try.prog 14 #[.pointer (some ⟨b, 0, none⟩), .int .i64 c, .int .i64 f, .int .i64 t, .int .i64 k] w fun e w' => e = .returned (.bool (roomB N s.q (c, f, t) k)) ∧ NetM W w' b bq bt N s ∧ Ext (Two bq bt) w w' := by
  refine (room_any h.net c f t k hx (h.ok _).1).mono ?_
  rintro e w' ⟨rfl, he⟩
  exact ⟨rfl, h.on he, he.nope⟩
theorem len_law {W w : World} {b bq bt : Nat} {N : Int} {s : NS} (h : NetM W w b bq bt N s) (c f t : Int) (hx : wayOk (c, f, t)) :
    Calls Try.prog 12 #[.pointer (some ⟨b, 0, none⟩), .int .i64 c, .int .i64 f, .int .i64 t] w fun e w' => e = .returned (.int .i64 (s.q (c, f, t)).length) ∧ NetM W w' b bq bt N s ∧ Ext (Two bq bt) w w' := by
  refine (len_any h.net c f t hx).mono ?_
  rintro e w' ⟨rfl, rfl⟩
  exact ⟨rfl, h, Ext.refl _ _⟩
theorem empty_law {W w : World} {b bq bt : Nat} {N : Int} {s : NS} (h : NetM W w b bq bt N s) :
    Calls Try.prog 15 #[.pointer (some ⟨b, 0, none⟩)] w fun e w' => e = .returned (.bool (emptyB s.q)) ∧ NetM W w' b bq bt N s ∧ Ext (Two bq bt) w w' := by
  refine (empty_any h.net).mono ?_
  rintro e w' ⟨rfl, he⟩
  exact ⟨rfl, h.on he, he.nope⟩

end Go.Proofs.Ytjpkhediolahaaa
