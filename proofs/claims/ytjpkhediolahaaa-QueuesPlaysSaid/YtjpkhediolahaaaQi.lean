/- Contract of Turn, where the first batch is turned. Conditions: the net is in memory as NetAt says, the arguments are ints, a queue has at most 64 batches, of at most 100000 bytes. -/
import Derived.Test.YtjpkhediolahaaaQh
set_option linter.unusedVariables false
set_option linter.unusedSimpArgs false
set_option linter.unusedSectionVars false
set_option linter.unnecessarySimpa false
namespace Go.Proofs.Ytjpkhediolahaaa
open Go.RowKit Go.Mk Go.Maps

/-- A batch that is turned in one byte. -/
def turnAt (k : Nat) (bs : List UInt8) : List UInt8 := bs.set k (bs.getD k 0 ^^^ 1)

def TurnPost (w : World) (b bq bt : Nat) (N : Int) (q : Way → List (List UInt8)) (tn : Way → Int) (e : Ending) (w' : World) : Prop :=
  e = .returned (.int .i64 0) ∧ NetAt w' b bq bt N q tn ∧ Ext (fun k => k = bq ∨ k = bt) w w'

/-- What goes on while a turn is counted. -/
structure R8 (bt : Nat) (tn : Way → Int) (key : Value) (w w' : World) : Prop where
  ext : Ext (· = bt) w w'
  tm : TMap w bt tn → TMap w' bt tn
  entry : ∀ s, EntryAt w bt key s → EntryAt w' bt key s
theorem R8.refl (bt : Nat) (tn : Way → Int) (key : Value) (w : World) : R8 bt tn key w w := ⟨Ext.refl _ _, id, fun _ h => h⟩
theorem R8.trans {bt tn key} {a b c : World} (h : R8 bt tn key a b) (k : R8 bt tn key b c) : R8 bt tn key a c := ⟨h.ext.trans k.ext, fun t => k.tm (h.tm t), fun s e => k.entry s (h.entry s e)⟩
def Entered (bt : Nat) (key : Value) (v : Value) (w : World) : Prop := ∃ s z, v = .tuple #[z, goInt s] ∧ EntryAt w bt key s
def Stamp (bt : Nat) (key : Value) (v : Value) (w : World) : Prop := ∃ s, v = goInt s ∧ EntryAt w bt key s

theorem TMap.entry {w : World} {bt : Nat} {tn : Way → Int} (h : TMap w bt tn) (c f t : Int) (hx : wayOk (c, f, t)) :
    ∃ w' s, (Instr.mapEntry 50 (.map (some bt)) (.agg #[.int .i64 c, .int .i64 f, .int .i64 t])).run Try.prog w = .ok (.tuple #[.int .i64 (tn (c, f, t)), goInt s]) w' ∧ R8 bt tn (.agg #[.int .i64 c, .int .i64 f, .int .i64 t]) w w' ∧ EntryAt w' bt (.agg #[.int .i64 c, .int .i64 f, .int .i64 t]) s := by
  obtain ⟨M, hm, hv⟩ := h
  obtain ⟨w', s, hrun, hm2, hone, hen, huq⟩ := hm.entry way_enc (t := 50) (e := 3) Try.underlying50 (zero3 w) (c, f, t) hx
  rw [hv _ hx] at hrun hm2
  refine ⟨w', s, hrun, ⟨hone.ext, fun _ => ⟨_, hm2, fun y hy => ?_⟩, fun s' hs' => ?_⟩, hen⟩
  · by_cases e : y = (c, f, t)
    · subst e
      rw [put_same]
      rfl
    · rw [put_other _ _ e]
      exact hv y hy
  · have := huq s' hs'
    subst this
    exact hen

theorem NetAt.entryStore {w w1 b bq bt N q tn} (h : NetAt w b bq bt N q tn) (he : Ext (· = bt) w w1) (ht : TMap w1 bt tn) (c f t : Int) (hx : wayOk (c, f, t)) (s : Int) (hen : EntryAt w1 bt (.agg #[.int .i64 c, .int .i64 f, .int .i64 t]) s) (n : Int) :
    ∃ w2, (Instr.entryStore 50 (.map (some bt)) (goInt s) (.int .i64 n)).run Try.prog w1 = .ok () w2 ∧ NetAt w2 b bq bt N q (upd tn (c, f, t) n) ∧ Ext (· = bt) w w2 ∧ Ext (· = bt) w1 w2 := by
  obtain ⟨M0, hm0, _⟩ := h.tm
  have hmaps : OnMaps (· = bt) w := fun k hk => by subst hk; exact hm0.map
  obtain ⟨M, hm, hv⟩ := ht
  obtain ⟨w2, hrun, hm2, hone⟩ := hm.entryStore way_enc (t := 50) (c, f, t) hx hen (.int .i64 n)
  have he2 := he.trans hone.ext
  have hne : b ≠ bt := fun e => by
    obtain ⟨es, cl, hb⟩ := hm0.map
    have := h.hdr
    rw [e, hb] at this
    cases this
  refine ⟨w2, hrun, ⟨he2.heap h.hdr hne, h.ne, h.qm.ext he2 hmaps h.ne, ⟨_, hm2, fun y hy => ?_⟩, h.few⟩, he2, hone.ext⟩
  by_cases e : y = (c, f, t)
  · subst e
    rw [put_same, upd_same]
    rfl
  · rw [put_other _ _ e, upd_other _ _ e]
    exact hv y hy

theorem slices_one {w : World} {v : Value} {vs : List Value} {rows : List (List UInt8)} (h : RowsV w v vs rows) : ∀ u ∈ vs, u.oneCell' = true := by
  intro u hu
  obtain ⟨hs, hr⟩ := h
  obtain ⟨i, hi⟩ := List.getElem?_of_mem hu
  have hil : i < rows.length := by
    have := (List.getElem?_eq_some_iff.1 hi).1
    have := hs.1
    omega
  obtain ⟨_, a, cap, rfl, _⟩ := hr i u _ hi (by simp [hil] : rows[i]? = some rows[i])
  rfl

theorem rows_put {w : World} {g cap : Nat} {cur : Array Value} {vs : List Value} {v : Value} {r0 : List UInt8} {rest : List (List UInt8)} (hb : w.heap[g]? = some (.cells (cur.setIfInBounds 0 v) 29 (0, 0))) (ht : cur.toList.take (rest.length + 1) = vs) (hs : cur.size = cap) (hn : rest.length + 1 ≤ cap) (hm : cap ≤ maxLen)
    (h0 : BytesAt w v r0) (hr : ∀ (i : Nat) (x : Value) (r : List UInt8), vs[i + 1]? = some x → rest[i]? = some r → BytesAt w x r) : RowsAt w (.slice (some ⟨g, 0, none⟩) (rest.length + 1) cap) (r0 :: rest) := by
  have hvl : vs.length = rest.length + 1 := by rw [← ht]; simp; omega
  refine ⟨vs.set 0 v, ⟨by simp [hvl], _, cap, rfl, hn, hm, fun e => (by cases e), fun ad e j u hu => ?_⟩, fun i x r hx hr' => ?_⟩
  · cases e
    have hj : j < rest.length + 1 := by
      have := (List.getElem?_eq_some_iff.1 hu).1
      simp [hvl] at this
      exact this
    have hadd : (⟨g, 0, none⟩ : Addr).add j = ⟨g, j, none⟩ := by unfold Addr.add; split <;> simp_all
    rw [hadd]
    simp only [World.cell?, hb]
    have hjc : j < cur.size := by omega
    by_cases h : j = 0
    · subst h
      have : 0 < vs.length := by omega
      simp [this] at hu
      simp [hjc, hu]
    · have h1 : vs[j]? = some u := by
        rw [List.getElem?_set_ne (by omega)] at hu
        exact hu
      rw [← ht, List.getElem?_take_of_lt hj, Array.getElem?_toList] at h1
      have : (0 : Nat) ≠ j := by omega
      simp [Array.getElem?_setIfInBounds_ne this, h1]
  · cases i with
    | zero =>
      have : 0 < vs.length := by omega
      simp [this] at hx
      simp at hr'
      subst hx; subst hr'
      exact h0
    | succ i =>
      rw [List.getElem?_set_ne (by omega)] at hx
      exact hr i x r hx (by simpa using hr')

/-- Another row at x. -/
theorem NetAt.put {w b bq bt N q tn} (h : NetAt w b bq bt N q tn) (c f t : Int) (hx : wayOk (c, f, t)) :
    ∃ M, MapAt Try.prog 53 wayV wayOk w bq M ∧ ∀ (w5 : World) (v : Value) (rows : List (List UInt8)), MapAt Try.prog 53 wayV wayOk w5 bq (Mk.put M (c, f, t) v) → Ext (· = bq) w w5 → RowsT 29 w5 v rows → NetAt w5 b bq bt N (upd q (c, f, t) rows) tn := by
  obtain ⟨M, hm, hv⟩ := h.qm
  have hmaps : OnMaps (· = bq) w := fun k hk => by subst hk; exact hm.map
  have hne : b ≠ bq := fun e => by
    obtain ⟨es, cl, hb⟩ := hm.map
    have := h.hdr
    rw [e, hb] at this
    cases this
  refine ⟨M, hm, fun w5 v rows hm5 he hr => ⟨he.heap h.hdr hne, h.ne, ⟨_, hm5, fun y hy => ?_⟩, h.tm.ext he (fun e => h.ne e.symm), h.few⟩⟩
  by_cases e : y = (c, f, t)
  · subst e
    rw [put_same, upd_same]
    exact hr
  · rw [put_other _ _ e, upd_other _ _ e]
    exact (hv y hy).extH he hmaps.hard

theorem xor_one (x : UInt8) : bits BinOp.xor IntKind.u8 (x.toNat : Int) 1 = ((x ^^^ 1).toNat : Int) := by
  have h : ∀ n : Fin 256, bits BinOp.xor IntKind.u8 (n.val : Int) 1 = (((UInt8.ofNat n.val) ^^^ 1).toNat : Int) := by decide +kernel
  have := h ⟨x.toNat, x.toNat_lt⟩
  simpa using this

/-- One byte of an own row is written. -/
theorem own_set {w : World} {base g cap : Nat} {bs : List UInt8} {cur : Array Value} (hg : base ≤ g) (hb : w.heap[g]? = some (.cells cur 5 (0, 0))) (hs : cur.size = cap) (ht : cur.toList.take bs.length = bs.map byteV) (hn : bs.length ≤ cap) (hm : cap ≤ maxLen) (k : Nat) (x : UInt8) :
    (w.setCell ⟨g, k, none⟩ (byteV x)).ownsRow base 5 1 (.slice (some ⟨g, 0, none⟩) bs.length cap) bs.length ((bs.set k x).map byteV) := by
  refine ⟨by simp, .inr ⟨g, cap, cur.setIfInBounds k (byteV x), rfl, hg, ?_, hn, hm, by simp [hs], ?_⟩⟩
  · simp only [World.setCell]
    have hlt : g < w.heap.size := (Array.getElem?_eq_some_iff.1 hb).1
    rw [Array.getElem?_modify, if_pos rfl, hb]
    simp
  · rw [Array.toList_setIfInBounds, Nat.mul_one, List.take_set, ht, List.map_set]

set_option maxHeartbeats 2000000 in
theorem turn_yes {w b bq bt N q tn} (h : NetAt w b bq bt N q tn) (c f t : Int) (k : Nat) (bs : List UInt8) (rest : List (List UInt8)) (hx : wayOk (c, f, t)) (hib : isB N (c, f, t) = true) (hq : q (c, f, t) = bs :: rest) (hlen : (q (c, f, t)).length ≤ 64) (hbs : bs.length ≤ 100000)
   (hk : k < bs.length) (hT0 : tn (c, f, t) = 0) :
   Calls Try.prog 16 #[.pointer (some ⟨b, 0, none⟩), .int .i64 c, .int .i64 f, .int .i64 t, .int .i64 k] w (TurnPost w b bq bt N (upd q (c, f, t) (turnAt k bs :: rest)) (upd tn (c, f, t) 1)) := by
  have h0 : Ext Nope w (w.alloc (.cells #[.int .i64 c, .int .i64 f, .int .i64 t] 53)) := (Ext.refl Nope w).alloc _
  have hpk := peek_yes (h.ext h0) c f t 0 bs hx hlen hib (by rw [hq]; rfl) hbs
  have hb0 := h.lt
  have hlT := h.lookTE c f t hx
  have hc2 := fun (w' : World) (he : Ext Nope w w') => (h.ext he).c2
  rw [hT0] at hlT
  have H := Lib.hid h
  have HQ := Lib.hid hq
  have HL := Lib.hid hlen
  have HI := Lib.hid hib
  have HT := Lib.hid hT0
  clear h hib hq hlen hT0
  have hd : decide ((k : Int) < 0) = false := by simp
  have hd2 : decide ((bs.length : Int) ≤ (k : Int)) = false := by simpa using hk
  have hd2' : decide (bs.length ≤ k) = false := by simpa using hk
  go_enter Try.func16, Try.ntmps16
  go_wp2_with (go_at_call 17; refine hpk.mono ?_; rintro e w' ⟨v, rfl, hown, hext⟩; obtain ⟨a, cap, rfl⟩ := own_slice hown)
  have hext' := h0.trans hext
  have hrun := fun n => hlT (w'.drewN n) (hext'.drewN n)
  have hcq := hc2 w' hext'
  have hk0 : w'.cell? ⟨w.heap.size, 0, none⟩ = some (.int .i64 c) := hext.cell (by simp) (fun h => h)
  have hk1 : w'.cell? ⟨w.heap.size, 1, none⟩ = some (.int .i64 f) := hext.cell (by simp) (fun h => h)
  have hk2 : w'.cell? ⟨w.heap.size, 2, none⟩ = some (.int .i64 t) := hext.cell (by simp) (fun h => h)
  go_quiet (fail)
  clear hrun
  obtain ⟨g, cur, rfl, hg1, hg2, hg3, hg4, hg5, hg6⟩ := own_head hown (by omega)
  have hlc : k < cur.size := by omega
  have hkc : w'.cell? ⟨g, k, none⟩ = some (.int .u8 (bs.getD k 0).toNat) := by
    have h1 : (cur.toList.take bs.length)[k]? = some cur[k] := by simp [hk, hlc]
    rw [hg4] at h1
    simp only [World.cell?, hg2]
    have h2 : cur[k] = byteV (bs.getD k 0) := by
      simp [hk] at h1
      simp [hk, ← h1]
    simp [hlc, h2, byteV]
  have hkf : w'.frozen? ⟨g, k, none⟩ = false := by simp [World.frozen?, hg2]
  obtain ⟨x, hxe⟩ : ∃ x, x = bs.getD k 0 := ⟨_, rfl⟩
  rw [← hxe] at hkc
  have Hxe := Lib.hid hxe
  clear hxe
  go_wp2
  rw [xor_one]
  have e6 : Ext Nope w ((w'.drewN nq).setCell ⟨g, k, none⟩ (.int .u8 (((x ^^^ 1).toNat : Nat) : Int))) := (hext'.drewN nq).setCell (.inr (show w.heap.size ≤ g by simp at hg1; omega)) _
  have hown6 : ((w'.drewN nq).setCell ⟨g, k, none⟩ (.int .u8 (((x ^^^ 1).toNat : Nat) : Int))).ownsRow w.heap.size 5 1 (.slice (some ⟨g, 0, none⟩) bs.length cap) bs.length ((turnAt k bs).map byteV) := by
    unfold turnAt
    rw [← Hxe.out]
    exact own_set (w := w'.drewN nq) (by simp at hg1; omega) hg2 hg3 hg4 hg5 hg6 k (x ^^^ 1)
  have hgne : g ≠ w.heap.size := by simp at hg1; omega
  have hz0 : ((w'.drewN nq).setCell ⟨g, k, none⟩ (.int .u8 (((x ^^^ 1).toNat : Nat) : Int))).cell? ⟨w.heap.size, 0, none⟩ = some (.int .i64 c) := by
    rw [cell_set_far _ _ _ _ hgne]; exact hk0
  have hz1 : ((w'.drewN nq).setCell ⟨g, k, none⟩ (.int .u8 (((x ^^^ 1).toNat : Nat) : Int))).cell? ⟨w.heap.size, 1, none⟩ = some (.int .i64 f) := by
    rw [cell_set_far _ _ _ _ hgne]; exact hk1
  have hz2 : ((w'.drewN nq).setCell ⟨g, k, none⟩ (.int .u8 (((x ^^^ 1).toNat : Nat) : Int))).cell? ⟨w.heap.size, 2, none⟩ = some (.int .i64 t) := by
    rw [cell_set_far _ _ _ _ hgne]; exact hk2
  generalize ((w'.drewN nq).setCell ⟨g, k, none⟩ (.int .u8 (((x ^^^ 1).toNat : Nat) : Int))) = w6 at *
  clear hkc hkf hcq hlT hc2 hk0 hk1 hk2 hown hpk
  have H6 := Lib.hid (H.out.ext e6)
  have hsz6 := e6.size
  have hltt := H.out.ltt
  have hltq := H.out.ltq
  refine' wp_region_walk 9 83 (by kernel_rfl) rfl (by kernel_rfl) (R8 bt tn (.agg #[.int .i64 c, .int .i64 f, .int .i64 t])) (fun w1 => w1.cell? ⟨b, 2, none⟩ = some (.map (some bt)) ∧ w1.cell? ⟨w.heap.size, 0, none⟩ = some (.int .i64 c) ∧ w1.cell? ⟨w.heap.size, 1, none⟩ = some (.int .i64 f) ∧ w1.cell? ⟨w.heap.size, 2, none⟩ = some (.int .i64 t) ∧ TMap w1 bt tn ∧ (Instr.lookup 50 (.map (some bt)) (.agg #[.int .i64 c, .int .i64 f, .int .i64 t]) false).run Try.prog w1 = .ok (.int .i64 0) w1) R8.trans ⟨(Ext.refl _ _).drew, fun h => h.ext (Ext.refl Nope w6).drew (fun h => h), fun _ h => h⟩ ?_ ?_ _ ?_ ?_
  · have hn6 := H6.out.ext (Ext.refl Nope w6).drew
    exact ⟨hn6.c2, hz0, hz1, hz2, hn6.tm, by have := hn6.lookT c f t hx; rw [HT.out] at this; exact this⟩
  · rintro y z hy hz ⟨h1, h2, h3, h4, h5, h6⟩
    have ht := hz.tm h5
    have hbt : b ≠ bt := fun e => by have := H.out.c2; obtain ⟨_, hm, _⟩ := H.out.tm; obtain ⟨es, cl, hb⟩ := hm.map; rw [e] at this; simp [World.cell?, hb] at this
    refine ⟨hz.ext.cell h1 hbt, hz.ext.cell h2 (fun e => by simp at e; omega), hz.ext.cell h3 (fun e => by simp at e; omega), hz.ext.cell h4 (fun e => by simp at e; omega), ht, ?_⟩
    obtain ⟨M, hm, hv⟩ := ht
    have hr := hm.lookup way_enc (t := 50) (e := 3) Try.underlying50 (zero3 z) (c, f, t) hx false
    rw [hv _ hx, HT.out] at hr
    exact hr
  rotate_left 1
  · 
    iterate 7
      apply Walk.exact
      · rfl
      · rintro ev w1 ⟨ec, eg, ef⟩ hR hS
        go_simp
        intros
        go_simp
        exact ⟨R8.refl _ _ _ _, rfl⟩
    apply Walk.fact (Entered bt (.agg #[.int .i64 c, .int .i64 f, .int .i64 t]))
    · rfl
    · rintro v y z _ hz _ _ ⟨s, zz, h1, h2⟩
      exact ⟨s, zz, h1, hz.entry s h2⟩
    · rintro ev w1 ⟨ec, eg, ef⟩ hR ⟨_, _, _, _, htm, _⟩
      obtain ⟨w2, s, hrun, hr8, hen⟩ := htm.entry c f t hx
      have HE := Lib.hid hen
      clear hen
      go_simp
      intros
      go_simp
      exact ⟨s, _, rfl, HE.out⟩
    apply Walk.fact (Stamp bt (.agg #[.int .i64 c, .int .i64 f, .int .i64 t]))
    · rfl
    · rintro v y z _ hz _ _ ⟨s, h1, h2⟩
      exact ⟨s, h1, hz.entry s h2⟩
    · rintro ev w1 ⟨ec, eg, ef⟩ hR -
      simp only [sees, Known.find, Op.operands, List.toList_toArray, ↓reduceIte, Option.some.injEq, Nat.reduceEqDiff, Spec.holds]
      rintro ⟨⟨s, zz, h61, hen⟩, -⟩
      have HE := Lib.hid hen
      clear hen
      go_simp
      exact ⟨R8.refl _ _ _ _, s, rfl, HE.out⟩
    exact Walk.nil
  · rintro w7 he7 ⟨_, hk0, hk1, hk2, htm7, _⟩
    simp only [Finish]
    rintro v62 ⟨s, rfl, hen7⟩ v61 -
    obtain ⟨w8, hrun8, hnet8, hext8, hone8⟩ := H6.out.entryStore he7.ext htm7 c f t hx s hen7 1
    have hrun8' : (Instr.entryStore 50 (.map (some bt)) (.int .i64 s) (.int .i64 1)).run Try.prog w7 = .ok () w8 := hrun8
    clear hrun8
    have HE := Lib.hid hen7
    have Htm7 := Lib.hid htm7
    clear hen7 htm7
    have hy0 := hone8.cell hk0 (fun e => by simp at e; omega)
    have hy1 := hone8.cell hk1 (fun e => by simp at e; omega)
    have hy2 := hone8.cell hk2 (fun e => by simp at e; omega)
    have H8 := Lib.hid hnet8
    clear hnet8 hk0 hk1 hk2
    go_simp
    go_wp2
    simp only [hrun8']
    go_wp2
    clear hrun8'
    have e8 : Ext (· = bt) w w8 := e6.nope.trans hext8
    have hc8 := H8.out.c1
    obtain ⟨ad, cap8, vs, hlook⟩ := H8.out.look c f t hx
    have hlook1 := fun w' he => (hlook w' he).1
    have hlook2 := fun w' he => (hlook w' he).2
    clear hlook
    obtain ⟨i0, hi, hz0', hz1', hz2'⟩ := info_parts info29
    have HLL : Hid ((q (c, f, t)).length = rest.length + 1) := by show _ = _; rw [HQ.out]; rfl
    rw [HLL.out] at hlook1 hlook2
    have hrl : rest.length + 1 ≤ 64 := by have := HL.out; rw [HLL.out] at this; exact this
    have hsz8 : w6.heap.size ≤ w8.heap.size := hext8.size
    refine' wp_region_ext 12 83 (by kernel_rfl) rfl (by kernel_rfl) Nope (fun w1 => w1.cell? ⟨b, 1, none⟩ = some (.map (some bq)) ∧ w1.cell? ⟨w.heap.size, 0, none⟩ = some (.int .i64 c) ∧ w1.cell? ⟨w.heap.size, 1, none⟩ = some (.int .i64 f) ∧ w1.cell? ⟨w.heap.size, 2, none⟩ = some (.int .i64 t) ∧ (Instr.lookup 49 (.map (some bq)) (.agg #[.int .i64 c, .int .i64 f, .int .i64 t]) false).run Try.prog w1 = .ok (.slice ad (rest.length + 1) cap8) w1 ∧ Ext Nope w8 w1) ?_ _ ?_ ?_
    · intro y hy
      exact ⟨hy.cell hc8 (fun h => h), hy.cell hy0 (fun h => h), hy.cell hy1 (fun h => h), hy.cell hy2 (fun h => h), hlook1 y hy, hy⟩
    rotate_left 1
    · 
      iterate 11
        apply Walk.exact
        · rfl
        · rintro ev w1 ⟨ec, eg, ef⟩ hR hS
          go_simp
          intros
          go_simp
          exact ⟨Ext.refl _ _, rfl⟩
      apply Walk.fact (fun v w1 => w1.ownsRow w8.heap.size 29 1 v (rest.length + 1) vs)
      · rfl
      · intro v y z _ he _ _ ho
        exact ownsRow_ext ho he (fun _ h => h.elim)
      · rintro ev w1 ⟨ec, eg, ef⟩ hR ⟨_, _, _, _, _, hw1⟩
        obtain ⟨hsl, _⟩ := hlook2 w1 hw1
        rw [HLL.out] at hsl
        have HS := Lib.hid hsl
        clear hsl
        go_simp
        intros
        go_simp
        refine (clone28 _ (rest.length + 1) vs w1 HS.out (slices_one (hlook2 w1 hw1)) (by omega)).mono ?_
        rintro e w2 ⟨v, rfl, ho, he⟩
        exact ⟨v, rfl, he, ownsRow_base ho hw1.size⟩
      exact Walk.nil
    · rintro w9 he9 ⟨_, hk0, hk1, hk2, _, hw9⟩
      simp only [Finish]
      intro v74 hown9
      obtain ⟨a74, cap74, rfl⟩ := own_slice hown9
      obtain ⟨g2, cur2, rfl, hq1, hq2, hq3, hq4, hq5, hq6⟩ := own_head hown9 (by omega)
      obtain ⟨M, hm8, hput⟩ := H8.out.put c f t hx
      have hm9 := hm8.ext he9 (fun h => h)
      obtain ⟨w10, hrun10, hm10, hone10⟩ := hm9.update way_enc (t := 49) (e := 22) Try.underlying49 (c, f, t) hx (.slice (some ⟨g2, 0, none⟩) (rest.length + 1) cap74)
      have hrun10' : (Instr.mapUpdate 49 (.map (some bq)) (.agg #[.int .i64 c, .int .i64 f, .int .i64 t]) (.slice (some ⟨g2, 0, none⟩) (rest.length + 1) cap74)).run Try.prog w9 = .ok () w10 := hrun10
      clear hrun10
      have hg2q : g2 ≠ bq := fun e => by obtain ⟨es, cl, hb⟩ := hm9.map; rw [e, hb] at hq2; cases hq2
      have hq2' : w10.heap[g2]? = some (.cells cur2 29 (0, 0)) := by rw [hone10.block g2 hg2q]; exact hq2
      have hbq : b ≠ bq := fun e => by have := H.out.c1; obtain ⟨_, hm, _⟩ := H.out.qm; obtain ⟨es, cl, hb⟩ := hm.map; rw [e] at this; simp [World.cell?, hb] at this
      have hv0 := hone10.ext.cell hk0 (fun e => by simp at e; omega)
      have hv1 := hone10.ext.cell hk1 (fun e => by simp at e; omega)
      have hv2 := hone10.ext.cell hk2 (fun e => by simp at e; omega)
      have hvb := hone10.ext.cell (he9.cell hc8 (fun h => h)) hbq
      have hlook10 : ∀ w1, Ext Nope w10 w1 → (Instr.lookup 49 (.map (some bq)) (.agg #[.int .i64 c, .int .i64 f, .int .i64 t]) false).run Try.prog w1 = .ok (.slice (some ⟨g2, 0, none⟩) (rest.length + 1) cap74) w1 := fun w1 h1 => by
        have := (hm10.ext h1 (fun h => h)).lookup way_enc (t := 49) (e := 22) Try.underlying49 (zero22 w1) (c, f, t) hx false
        rw [put_same] at this
        exact this
      have hvl : vs.length = rest.length + 1 := by have := (hlook2 w9 hw9).1.1; rw [HLL.out] at this; omega
      have hc2l : 0 < cur2.size := by omega
      have hgc : ∀ w1, Ext Nope w10 w1 → w1.cell? ⟨g2, 0, none⟩ = some cur2[0] ∧ w1.frozen? ⟨g2, 0, none⟩ = false := fun w1 h1 => by
        have := h1.heap hq2' (fun h => h)
        simp [World.cell?, World.frozen?, this, hc2l]
      go_simp
      go_wp2
      clear hrun10'
      refine' wp_region_ext 8 83 (by kernel_rfl) rfl (by kernel_rfl) Nope (fun w1 => w1.cell? ⟨b, 1, none⟩ = some (.map (some bq)) ∧ w1.cell? ⟨w.heap.size, 0, none⟩ = some (.int .i64 c) ∧ w1.cell? ⟨w.heap.size, 1, none⟩ = some (.int .i64 f) ∧ w1.cell? ⟨w.heap.size, 2, none⟩ = some (.int .i64 t) ∧ (Instr.lookup 49 (.map (some bq)) (.agg #[.int .i64 c, .int .i64 f, .int .i64 t]) false).run Try.prog w1 = .ok (.slice (some ⟨g2, 0, none⟩) (rest.length + 1) cap74) w1) ?_ _ ?_ ?_
      · intro y hy
        exact ⟨hy.cell hvb (fun h => h), hy.cell hv0 (fun h => h), hy.cell hv1 (fun h => h), hy.cell hv2 (fun h => h), hlook10 y hy⟩
      rotate_left 1
      · 
        iterate 8
          apply Walk.exact
          · rfl
          · rintro ev w1 ⟨ec, eg, ef⟩ hR hS
            go_simp
            intros
            go_simp
            exact ⟨Ext.refl _ _, rfl⟩
        exact Walk.nil
      · rintro w11 he11 -
        obtain ⟨hgc1, hgf1⟩ := hgc w11 he11
        simp only [Finish]
        go_simp
        go_wp2
        go_ret
        have hx8 : Ext (· = bq) w8 (w11.setCell ⟨g2, 0, none⟩ (.slice (some ⟨g, 0, none⟩) bs.length cap)) := ((he9.nope.trans hone10.ext).trans he11.nope).setCell (.inr hq1) _
        have hmaps8 : OnMaps (· = bq) w8 := fun k hk => by subst hk; exact hm8.map
        have hmaps6 : OnMaps (· = bt) w6 := fun k hk => by subst hk; obtain ⟨_, hm, _⟩ := H6.out.tm; exact hm.map
        have hb12 : (w11.setCell ⟨g2, 0, none⟩ (.slice (some ⟨g, 0, none⟩) bs.length cap)).heap[g2]? = some (.cells (cur2.setIfInBounds 0 (.slice (some ⟨g, 0, none⟩) bs.length cap)) 29 (0, 0)) := by
          simp only [World.setCell]
          rw [Array.getElem?_modify, if_pos rfl, he11.heap hq2' (fun h => h)]
          simp
        have hby := ((SliceAt.of_own hown6).extM hext8 hmaps6).extM hx8 hmaps8
        have hby' : BytesAt (w11.setCell ⟨g2, 0, none⟩ (.slice (some ⟨g, 0, none⟩) bs.length cap)) (.slice (some ⟨g, 0, none⟩) bs.length cap) (turnAt k bs) := by
          unfold BytesAt
          rw [show (turnAt k bs).length = bs.length by simp [turnAt]]
          exact hby
        have hrows := rows_put hb12 (by simpa using hq4) hq3 hq5 hq6 hby' (fun i x r hx hr => ((hlook2 w8 (Ext.refl _ _)).2 (i + 1) x r hx (by rw [HQ.out]; simpa using hr)).extM hx8 hmaps8)
        refine ⟨rfl, hput _ _ _ ?_ hx8 ⟨hrows, fun ad n cp hv => (by simp only [Value.slice.injEq, Option.some.injEq] at hv; obtain ⟨rfl, -, -⟩ := hv; exact ⟨_, _, hb12⟩)⟩, (e8.mono (fun _ h => .inr h)).trans (hx8.mono (fun _ h => .inl h))⟩
        refine (hm10.ext he11 (fun h => h)).same ?_
        simp only [World.setCell, Array.getElem?_modify]
        rw [if_neg hg2q]

end Go.Proofs.Ytjpkhediolahaaa
