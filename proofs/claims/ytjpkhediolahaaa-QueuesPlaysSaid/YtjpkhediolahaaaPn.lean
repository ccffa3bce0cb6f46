/- QueuesPlays: both nets in memory, and the calls of each as laws over what both hold. Conditions: each lemma bears its own. -/
import Derived.Test.YtjpkhediolahaaaPm
import Derived.Test.YtjpkhediolahaaaQm
set_option linter.unusedVariables false
set_option linter.unusedSimpArgs false
set_option linter.unusedSectionVars false
set_option linter.unnecessarySimpa false
namespace Go.Proofs.Ytjpkhediolahaaa
open Go.RowKit Go.Mk Go.Maps

/-- Nothing lies outside the queues that are. -/
def NS.within (N : Int) (s : NS) : Prop := ∀ x, isB N x = false → s.q x = []
theorem within_upd {N : Int} {s : NS} (h : s.within N) {x : Way} (hx : isB N x = true) (rows : List (List UInt8)) (tn : Way → Int) : (⟨upd s.q x rows, tn⟩ : NS).within N := by
  intro y hy
  have hne : y ≠ x := fun e => by rw [e, hx] at hy; cases hy
  show upd s.q x rows y = []
  rw [upd_other _ _ hne]
  exact h y hy
theorem pushM_within {N : Int} {s : NS} {x : Way} {bs : List UInt8} (h : s.within N) : (pushM N s x bs).2.within N := by
  unfold pushM
  cases hb : isB N x
  · exact h
  · simp only [if_true]
    split
    · exact h
    · exact within_upd h hb _ _
theorem popM_within {N : Int} {s : NS} {x : Way} (h : s.within N) : (popM N s x).2.2.within N := by
  unfold popM
  cases hb : isB N x
  · exact h
  · simp only [if_true]
    split
    · exact h
    · exact within_upd h hb _ _
theorem turnM_within {N : Int} {s : NS} {x : Way} {k : Int} (h : s.within N) : (turnM N s x k).2.within N := by
  unfold turnM
  cases hb : isB N x
  · exact h
  · simp only [if_true]
    split
    · exact h
    · split
      · exact h
      · exact within_upd h hb _ _

/-- Both nets in memory: the program's holds s, the reference's t. -/
structure Pr (W w : World) (b bq bt r rq rt : Nat) (N : Int) (s t : NS) : Prop where
  net : NetM W w b bq bt N s
  ref : RefAt w r rq rt N t.q t.tn
  gr : W.heap.size ≤ r
  gq : W.heap.size ≤ rq
  gt : W.heap.size ≤ rt
  okt : t.ok
  out : t.within N

section
variable {W w w' : World} {b bq bt r rq rt : Nat} {N : Int} {s s' t t' : NS}
theorem RefAt.offMaps {q tn} (h : RefAt w r rq rt N q tn) {M : Nat → Prop} (hM : OnMaps M w) : ¬ M r ∧ ¬ M rq ∧ ¬ M rt := by
  refine ⟨fun hm => ?_, fun hm => ?_, fun hm => ?_⟩
  · obtain ⟨es, cl, hb⟩ := hM _ hm
    rw [h.hdr] at hb
    cases hb
  · obtain ⟨es, cl, hb⟩ := hM _ hm
    obtain ⟨cs, h1, _⟩ := h.qs
    rw [h1] at hb
    cases hb
  · obtain ⟨es, cl, hb⟩ := hM _ hm
    obtain ⟨cs, h1, _⟩ := h.ts
    rw [h1] at hb
    cases hb
theorem NetAt.offRef {q tn q' tn'} (h : NetAt w b bq bt N q tn) (hr : RefAt w r rq rt N q' tn') : ¬ RTwo rq rt b ∧ ¬ RTwo rq rt bq ∧ ¬ RTwo rq rt bt := by
  obtain ⟨cs, h1, _⟩ := hr.qs
  obtain ⟨ts, h2, _⟩ := hr.ts
  refine ⟨fun hm => ?_, fun hm => ?_, fun hm => ?_⟩
  · have h3 := h.hdr
    rcases hm with rfl | rfl
    · rw [h1] at h3
      simp at h3
    · rw [h2] at h3
      simp at h3
  · obtain ⟨_, hm', _⟩ := h.qm
    obtain ⟨es, cl, hb⟩ := hm'.map
    rcases hm with rfl | rfl
    · rw [h1] at hb
      cases hb
    · rw [h2] at hb
      cases hb
  · obtain ⟨_, hm', _⟩ := h.tm
    obtain ⟨es, cl, hb⟩ := hm'.map
    rcases hm with rfl | rfl
    · rw [h1] at hb
      cases hb
    · rw [h2] at hb
      cases hb

theorem Pr.ext (h : Pr W w b bq bt r rq rt N s t) : Ext Nope W w := h.net.ext
theorem Pr.onN (h : Pr W w b bq bt r rq rt N s t) (hn : NetM W w' b bq bt N s') (he : Ext (Two bq bt) w w') : Pr W w' b bq bt r rq rt N s' t := by
  obtain ⟨o1, o2, o3⟩ := h.ref.offMaps h.net.maps
  exact ⟨hn, h.ref.extH he h.net.maps.hard o1 o2 o3, h.gr, h.gq, h.gt, h.okt, h.out⟩
theorem Pr.onY (h : Pr W w b bq bt r rq rt N s t) (hr : RefAt w' r rq rt N t'.q t'.tn) (hk : t'.ok) (ho : t'.within N) (he : Ext (RTwo rq rt) w w') : Pr W w' b bq bt r rq rt N s t' := by
  obtain ⟨o1, o2, o3⟩ := h.net.net.offRef h.ref
  have hg : ∀ i, RTwo rq rt i → W.heap.size ≤ i := fun i hi => by
    rcases hi with rfl | rfl
    · exact h.gq
    · exact h.gt
  exact ⟨⟨⟨he.heap h.net.net.hdr o1, h.net.net.ne, h.net.net.qm.extH he h.ref.hard o2, h.net.net.tm.ext he o3, h.net.net.few⟩, h.net.nb, h.net.nq, h.net.nt, h.net.ok, h.net.ext.trans' he (fun i hi => .inr (hg i hi))⟩,
    hr, h.gr, h.gq, h.gt, hk, ho⟩
theorem Pr.on (h : Pr W w b bq bt r rq rt N s t) (he : Ext Nope w w') : Pr W w' b bq bt r rq rt N s t :=
  ⟨h.net.on he, h.ref.ext he, h.gr, h.gq, h.gt, h.okt, h.out⟩
/-- What other maps than the net's own come to. -/
theorem Pr.foreign (h : Pr W w b bq bt r rq rt N s t) {M : Nat → Prop} (hM : OnMaps M w) (hg : ∀ k, M k → W.heap.size ≤ k) (o1 : ¬ M b) (o2 : ¬ M bq) (o3 : ¬ M bt) (he : Ext M w w') : Pr W w' b bq bt r rq rt N s t := by
  obtain ⟨p1, p2, p3⟩ := h.ref.offMaps hM
  exact ⟨⟨⟨he.heap h.net.net.hdr o1, h.net.net.ne, h.net.net.qm.ext he hM o2, h.net.net.tm.ext he o3, h.net.net.few⟩, h.net.nb, h.net.nq, h.net.nt, h.net.ok, h.net.ext.trans' he (fun i hi => .inr (hg i hi))⟩,
    h.ref.extH he hM.hard p1 p2 p3, h.gr, h.gq, h.gt, h.okt, h.out⟩
end

/-- What a call of both nets may have turned. -/
def Four (bq bt rq rt : Nat) : Nat → Prop := fun k => Two bq bt k ∨ RTwo rq rt k

def PCode (W w : World) (b bq bt r rq rt : Nat) (N : Int) (c : Int) (s t : NS) (e : Ending) (w' : World) : Prop := e = .returned (.int .i64 c) ∧ Pr W w' b bq bt r rq rt N s t
def PBatch (W w : World) (b bq bt r rq rt : Nat) (N : Int) (c : Int) (bs : List UInt8) (s t : NS) (e : Ending) (w' : World) : Prop :=
  ∃ v, e = .returned (.tuple #[v, .int .i64 c]) ∧ w'.ownsRow w.heap.size 5 1 v bs.length (bs.map byteV) ∧ Pr W w' b bq bt r rq rt N s t

section
variable {W w : World} {b bq bt r rq rt : Nat} {N : Int} {s t : NS}
theorem pn_pop (h : Pr W w b bq bt r rq rt N s t) (c f u : Int) (hx : wayOk (c, f, u)) :
    Calls Try.prog 11 #[.pointer (some ⟨b, 0, none⟩), .int .i64 c, .int .i64 f, .int .i64 u] w fun e w' => PBatch W w b bq bt r rq rt N (popM N s (c, f, u)).1 (popM N s (c, f, u)).2.1 (popM N s (c, f, u)).2.2 t e w' ∧ Ext (Two bq bt) w w' := by
  refine (pop_law h.net c f u hx).mono ?_
  rintro e w' ⟨v, rfl, ho, hn, he⟩
  exact ⟨⟨v, rfl, ho, h.onN hn he⟩, he⟩
theorem py_pop (h : Pr W w b bq bt r rq rt N s t) (c f u : Int) :
    Calls Try.prog 31 #[.pointer (some ⟨r, 0, none⟩), .int .i64 c, .int .i64 f, .int .i64 u] w fun e w' => PBatch W w b bq bt r rq rt N (popM N t (c, f, u)).1 (popM N t (c, f, u)).2.1 s (popM N t (c, f, u)).2.2 e w' ∧ Ext (RTwo rq rt) w w' := by
  obtain ⟨h1, h2, _⟩ := h.okt (c, f, u)
  refine (rpop_any h.ref c f u h2 h1).mono ?_
  rintro e w' ⟨v, rfl, ho, hn, he⟩
  exact ⟨⟨v, rfl, ho, h.onY hn (popM_ok h.okt) (popM_within h.out) he⟩, he⟩
theorem pn_peek (h : Pr W w b bq bt r rq rt N s t) (c f u k : Int) (hx : wayOk (c, f, u)) :
    Calls Try.prog 17 #[.pointer (some ⟨b, 0, none⟩), .int .i64 c, .int .i64 f, .int .i64 u, .int .i64 k] w fun e w' => ∃ v, e = .returned (.tuple #[v, .int .i64 (peekM N s (c, f, u) k).1]) ∧ w'.ownsRow w.heap.size 5 1 v (peekM N s (c, f, u) k).2.length ((peekM N s (c, f, u) k).2.map byteV) ∧ Ext Nope w w' := by
  obtain ⟨h1, h2, _⟩ := h.net.ok (c, f, u)
  have hn := h.net.net
  unfold peekM
  cases hib : isB N (c, f, u)
  · refine (peek_none hn c f u k hib).mono ?_
    rintro e w' ⟨rfl, he⟩
    exact ⟨_, rfl, World.ownsRow_nil _ _ _ _, he⟩
  · by_cases hk : 0 ≤ k
    · obtain ⟨n, rfl⟩ := Int.eq_ofNat_of_zero_le hk
      cases hq : (s.q (c, f, u))[n]? with
      | none =>
        refine (peek_out hn c f u n hx hib (.inr (by have := List.getElem?_eq_none_iff.1 hq; omega))).mono ?_
        rintro e w' ⟨rfl, he⟩
        simp only [if_true, if_pos hk, Int.toNat_natCast, hq]
        exact ⟨_, rfl, World.ownsRow_nil _ _ _ _, he⟩
      | some bs =>
        refine (peek_yes hn c f u n bs hx h1 hib hq (h2 bs (List.mem_of_getElem? hq))).mono ?_
        rintro e w' ⟨v, rfl, ho, he⟩
        simp only [if_true, if_pos hk, Int.toNat_natCast, hq]
        exact ⟨v, rfl, ho, he⟩
    · refine (peek_out hn c f u k hx hib (.inl (by omega))).mono ?_
      rintro e w' ⟨rfl, he⟩
      simp only [if_true, if_neg hk]
      exact ⟨_, rfl, World.ownsRow_nil _ _ _ _, he⟩
theorem py_peek (h : Pr W w b bq bt r rq rt N s t) (c f u k : Int) :
    Calls Try.prog 23 #[.pointer (some ⟨r, 0, none⟩), .int .i64 c, .int .i64 f, .int .i64 u, .int .i64 k] w (RPeek w (peekM N t (c, f, u) k)) :=
  rpeek_any h.ref c f u k (h.okt (c, f, u)).2.1
theorem pn_turn (h : Pr W w b bq bt r rq rt N s t) (c f u k : Int) (hx : wayOk (c, f, u)) :
    Calls Try.prog 16 #[.pointer (some ⟨b, 0, none⟩), .int .i64 c, .int .i64 f, .int .i64 u, .int .i64 k] w fun e w' => PCode W w b bq bt r rq rt N (turnM N s (c, f, u) k).1 (turnM N s (c, f, u) k).2 t e w' ∧ Ext (Two bq bt) w w' := by
  refine (turn_law h.net c f u k hx).mono ?_
  rintro e w' ⟨rfl, hn, he⟩
  exact ⟨⟨rfl, h.onN hn he⟩, he⟩
theorem py_turn (h : Pr W w b bq bt r rq rt N s t) (c f u k : Int) :
    Calls Try.prog 32 #[.pointer (some ⟨r, 0, none⟩), .int .i64 c, .int .i64 f, .int .i64 u, .int .i64 k] w fun e w' => PCode W w b bq bt r rq rt N (turnM N t (c, f, u) k).1 s (turnM N t (c, f, u) k).2 e w' ∧ Ext (RTwo rq rt) w w' := by
  obtain ⟨h1, h2, _⟩ := h.okt (c, f, u)
  refine (rturn_any h.ref c f u k h2 h1).mono ?_
  rintro e w' ⟨rfl, hn, he⟩
  exact ⟨⟨rfl, h.onY hn (turnM_ok h.okt) (turnM_within h.out) he⟩, he⟩
theorem py_push (h : Pr W w b bq bt r rq rt N s t) (c f u : Int) (v : Value) (bs : List UInt8) (hv : BytesAt w v bs) (hb : bs.length ≤ 100000) :
    Calls Try.prog 33 #[.pointer (some ⟨r, 0, none⟩), .int .i64 c, .int .i64 f, .int .i64 u, v] w fun e w' => PCode W w b bq bt r rq rt N (pushM N t (c, f, u) bs).1 s (pushM N t (c, f, u) bs).2 e w' ∧ Ext (RTwo rq rt) w w' := by
  obtain ⟨h1, h2, _⟩ := h.okt (c, f, u)
  refine (rpush_any h.ref c f u v bs hv hb h1).mono ?_
  rintro e w' ⟨rfl, hn, he⟩
  exact ⟨⟨rfl, h.onY hn (pushM_ok h.okt hb) (pushM_within h.out) he⟩, he⟩
/-- Push of a batch that the caller made and may change afterwards. -/
theorem pn_push {w0 : World} (h : Pr W w0 b bq bt r rq rt N s t) (hwe : Ext Nope w0 w) (c f u : Int) (v : Value) (bs : List UInt8) (hx : wayOk (c, f, u)) (hv : BytesAt w v bs) (hb : bs.length ≤ 100000) :
    Calls Try.prog 9 #[.pointer (some ⟨b, 0, none⟩), .int .i64 c, .int .i64 f, .int .i64 u, v] w fun e w' => e = .returned (.int .i64 (pushM N s (c, f, u) bs).1) ∧ (∀ w2, Ext (fun k => w0.heap.size ≤ k ∧ k < w.heap.size) w' w2 → Pr W w2 b bq bt r rq rt N (pushM N s (c, f, u) bs).2 t) ∧ Ext (Two bq bt) w w' := by
  have hok := pushM_ok (N := N) (x := (c, f, u)) h.net.ok hb
  have hw := h.on hwe
  have hsz := hwe.size
  unfold pushM at hok ⊢
  cases hib : isB N (c, f, u)
  · refine (push_none hw.net.net c f u v hib).mono ?_
    rintro e w' ⟨rfl, he⟩
    exact ⟨rfl, fun w2 he2 => h.on ((hwe.trans he).trans' he2 (fun k hk => .inr hk.1)), he.nope⟩
  · rw [hib] at hok
    by_cases hq : 64 ≤ (s.q (c, f, u)).length
    · refine (push_full hw.net.net c f u v hx hib hq).mono ?_
      rintro e w' ⟨rfl, he⟩
      simp only [if_true, if_pos hq]
      exact ⟨trivial, fun w2 he2 => h.on ((hwe.trans he).trans' he2 (fun k hk => .inr hk.1)), he.nope⟩
    · refine (push_far h.net.net hwe c f u v bs hx hib (by omega) hv hb).mono ?_
      rintro e w' ⟨rfl, hn, he⟩
      simp only [if_true, if_neg hq] at hok ⊢
      refine ⟨trivial, fun w2 he2 => ?_, he.mono fun _ h => .inl h⟩
      have h02 : Ext (Two bq bt) w0 w2 := (hwe.nope.trans (he.mono fun _ h => .inl h)).trans' he2 (fun k hk => .inr hk.1)
      exact h.onN (h.net.to (hn w2 he2) hok h02) h02
theorem pn_room (h : Pr W w b bq bt r rq rt N s t) (c f u k : Int) (hx : wayOk (c, f, u)) :
    Calls Try.prog 14 #[.pointer (some ⟨b, 0, none⟩), .int .i64 c, .int .i64 f, .int .i64 u, .int .i64 k] w (BoolPost w (roomB N s.q (c, f, u) k)) :=
  (room_any h.net.net c f u k hx (h.net.ok _).1).mono fun e w' h => h
theorem py_room (h : Pr W w b bq bt r rq rt N s t) (c f u k : Int) :
    Calls Try.prog 21 #[.pointer (some ⟨r, 0, none⟩), .int .i64 c, .int .i64 f, .int .i64 u, .int .i64 k] w (BoolPost w (roomB N t.q (c, f, u) k)) :=
  rroom_any h.ref c f u k (h.okt _).1
theorem pn_len (h : Pr W w b bq bt r rq rt N s t) (c f u : Int) (hx : wayOk (c, f, u)) :
    Calls Try.prog 12 #[.pointer (some ⟨b, 0, none⟩), .int .i64 c, .int .i64 f, .int .i64 u] w (IntPost (s.q (c, f, u)).length w) := by
  refine (len_any h.net.net c f u hx).mono ?_
  rintro e w' ⟨rfl, rfl⟩
  exact ⟨rfl, Ext.refl _ _⟩
theorem py_len (h : Pr W w b bq bt r rq rt N s t) (c f u : Int) :
    Calls Try.prog 22 #[.pointer (some ⟨r, 0, none⟩), .int .i64 c, .int .i64 f, .int .i64 u] w (IntPost (t.q (c, f, u)).length w) := by
  have := rlen_any h.ref c f u
  cases hb : isB N (c, f, u)
  · rw [h.out _ hb]
    rw [hb] at this
    exact this
  · rw [hb] at this
    exact this
theorem pn_empty (h : Pr W w b bq bt r rq rt N s t) : Calls Try.prog 15 #[.pointer (some ⟨b, 0, none⟩)] w (BoolPost w (emptyB s.q)) := empty_any h.net.net
theorem py_empty (h : Pr W w b bq bt r rq rt N s t) : Calls Try.prog 24 #[.pointer (some ⟨r, 0, none⟩)] w (BoolPost w (emptyB t.q)) := rempty_any h.ref h.out
end

/-- The old net, which was cloned: some net, apart from the new one. -/
def OldNet (W w : World) (o oq ot b bq bt : Nat) (N : Int) : Prop := (∃ so, NetM W w o oq ot N so) ∧ ¬ Two oq ot b ∧ ¬ Two oq ot bq ∧ ¬ Two oq ot bt

theorem OldNet.on {W w w' : World} {o oq ot b bq bt : Nat} {N : Int} (h : OldNet W w o oq ot b bq bt N) (he : Ext Nope w w') : OldNet W w' o oq ot b bq bt N := by
  obtain ⟨⟨so, hn⟩, h⟩ := h
  exact ⟨⟨so, hn.on he⟩, h⟩

section
variable {W w : World} {b bq bt r rq rt o oq ot : Nat} {N : Int} {s t : NS}
theorem pn_clone (h : Pr W w b bq bt r rq rt N s t) :
    Calls Try.prog 19 #[.pointer (some ⟨b, 0, none⟩)] w fun e w' => ∃ b' bq' bt', e = .returned (.pointer (some ⟨b', 0, none⟩)) ∧ Pr W w' b' bq' bt' r rq rt N s t ∧ OldNet W w' b bq bt b' bq' bt' N := by
  refine (clone_any h.net.net).mono ?_
  rintro e w' ⟨b', bq', bt', rfl, hn, h1, h2, h3, he⟩
  have hs := h.ext.size
  have l1 := h.net.net.ltq
  have l2 := h.net.net.ltt
  refine ⟨b', bq', bt', rfl, ⟨⟨hn, by omega, by omega, by omega, h.net.ok, h.ext.trans he⟩, h.ref.ext he, h.gr, h.gq, h.gt, h.okt, h.out⟩, ⟨s, h.net.on he⟩, ?_, ?_, ?_⟩
  · rintro (e | e) <;> omega
  · rintro (e | e) <;> omega
  · rintro (e | e) <;> omega
theorem two_new {so : NS} (h : NetM W w o oq ot N so) : ∀ k, Two oq ot k → W.heap.size ≤ k := by
  rintro k (rfl | rfl)
  · exact h.nq
  · exact h.nt
theorem old_push (h : Pr W w b bq bt r rq rt N s t) (ho : OldNet W w o oq ot b bq bt N) (c f u : Int) (hx : wayOk (c, f, u)) :
    Calls Try.prog 9 #[.pointer (some ⟨o, 0, none⟩), .int .i64 c, .int .i64 f, .int .i64 u, .slice none 0 0] w fun e w' => (∃ n, e = .returned (.int .i64 n)) ∧ Pr W w' b bq bt r rq rt N s t ∧ OldNet W w' o oq ot b bq bt N := by
  obtain ⟨⟨so, hn⟩, o1, o2, o3⟩ := ho
  refine (push_law hn c f u _ [] hx (SliceAt.nil _ _) (by simp)).mono ?_
  rintro e w' ⟨rfl, hn', he⟩
  exact ⟨⟨_, rfl⟩, h.foreign hn.maps (two_new hn) o1 o2 o3 he, ⟨_, hn'⟩, o1, o2, o3⟩
theorem old_turn (h : Pr W w b bq bt r rq rt N s t) (ho : OldNet W w o oq ot b bq bt N) (c f u k : Int) (hx : wayOk (c, f, u)) :
    Calls Try.prog 16 #[.pointer (some ⟨o, 0, none⟩), .int .i64 c, .int .i64 f, .int .i64 u, .int .i64 k] w fun e w' => (∃ n, e = .returned (.int .i64 n)) ∧ Pr W w' b bq bt r rq rt N s t ∧ OldNet W w' o oq ot b bq bt N := by
  obtain ⟨⟨so, hn⟩, o1, o2, o3⟩ := ho
  refine (turn_law hn c f u k hx).mono ?_
  rintro e w' ⟨rfl, hn', he⟩
  exact ⟨⟨_, rfl⟩, h.foreign hn.maps (two_new hn) o1 o2 o3 he, ⟨_, hn'⟩, o1, o2, o3⟩
end
end Go.Proofs.Ytjpkhediolahaaa
