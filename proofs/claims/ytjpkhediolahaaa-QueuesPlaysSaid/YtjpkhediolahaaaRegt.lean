/-
  OWN WORK. 'wp_region_steps': as 'wp_region_stage' (Regs), with a relation 'Q i' for each operation: the fact that operation j leaves must stand what the OTHER operations do. There: some operations of a region that draws its order CHANGE what the facts speak of: a fact 'St d' of the world that knows which operations have run ('d'); and each operation knows that what it waits for has run. No project text; no macro, syntax or notation.
-/
import Derived.Test.YtjpkhediolahaaaRegs
set_option linter.unusedVariables false
set_option linter.unusedSimpArgs false
set_option linter.unusedSectionVars false
set_option linter.unnecessarySimpa false
namespace Go.Mk

inductive Walk3 (P : Program) (ops : Array Oper) (R : World → World → Prop) (Q3 : Nat → World → World → Prop) (S : World → Prop) (St : (Nat → Bool) → World → Prop) (w : World) (a : Act) : Nat → List Oper → Known → Known → Prop
  | nil {i : Nat} {k : Known} : Walk3 P ops R Q3 S St w a i [] k k
  | exact {i : Nat} {o : Oper} {rest : List Oper} {k k' : Known} (c : Value) (hg : guardState ops k o = some true)
      (h : ∀ d ev w', EvOK ev → R w w' → S w' → d i = false → (∀ e ∈ o.after, Region.binds .any e = true → d e.on = true) → St d w' → sees k a ev w' o.op.operands.toList → Does P o ev w' fun v w'' => Q3 i w' w'' ∧ St (dset d i) w'' ∧ v = c)
      (hr : Walk3 P ops R Q3 S St w a (i + 1) rest ((o.dst, .exact c) :: k) k') : Walk3 P ops R Q3 S St w a i (o :: rest) k k'
  | fact {i : Nat} {o : Oper} {rest : List Oper} {k k' : Known} (φ : Value → World → Prop) (hg : guardState ops k o = some true)
      (hmono : ∀ i' v w' w'', i' ≠ i → R w w' → Q3 i' w' w'' → S w' → S w'' → φ v w' → φ v w'')
      (h : ∀ d ev w', EvOK ev → R w w' → S w' → d i = false → (∀ e ∈ o.after, Region.binds .any e = true → d e.on = true) → St d w' → sees k a ev w' o.op.operands.toList → Does P o ev w' fun v w'' => Q3 i w' w'' ∧ St (dset d i) w'' ∧ φ v w'')
      (hr : Walk3 P ops R Q3 S St w a (i + 1) rest ((o.dst, .fact φ) :: k) k') : Walk3 P ops R Q3 S St w a i (o :: rest) k k'
  | skip {i : Nat} {o : Oper} {rest : List Oper} {k k' : Known} (hg : guardState ops k o = some false)
      (hst : ∀ d w', R w w' → S w' → St d w' → St (dset d i) w')
      (hr : Walk3 P ops R Q3 S St w a (i + 1) rest ((o.dst, .exact undef) :: k) k') : Walk3 P ops R Q3 S St w a i (o :: rest) k k'

inductive Entry3 (P : Program) (ops : Array Oper) (R : World → World → Prop) (Q3 : Nat → World → World → Prop) (S : World → Prop) (St : (Nat → Bool) → World → Prop) (w : World) (a : Act) (i : Nat) (k : Known) (o : Oper) (s : Spec) : Prop
  | run (hg : guardState ops k o = some true) (hmono : ∀ i' v w' w'', i' ≠ i → R w w' → Q3 i' w' w'' → S w' → S w'' → s.holds v w' → s.holds v w'')
      (h : ∀ d ev w', EvOK ev → R w w' → S w' → d i = false → (∀ e ∈ o.after, Region.binds .any e = true → d e.on = true) → St d w' → sees k a ev w' o.op.operands.toList → Does P o ev w' fun v w'' => Q3 i w' w'' ∧ St (dset d i) w'' ∧ s.holds v w'')
  | skip (hg : guardState ops k o = some false) (hst : ∀ d w', R w w' → S w' → St d w' → St (dset d i) w') (hs : s = .exact undef)

section
variable {P : Program} {ops : Array Oper} {R : World → World → Prop} {Q3 : Nat → World → World → Prop} {S : World → Prop} {St : (Nat → Bool) → World → Prop} {w : World} {a : Act}

theorem Walk3.table {n : Nat} {l : List Oper} {k k' : Known} (h : Walk3 P ops R Q3 S St w a n l k k') :
    ∃ sp : List Spec, sp.length = l.length ∧ k' = zipKnown l sp k ∧ ∀ i o, l[i]? = some o → ∃ s, sp[i]? = some s ∧ Entry3 P ops R Q3 S St w a (n + i) (zipKnown (l.take i) (sp.take i) k) o s := by
  induction h with
  | nil => exact ⟨[], rfl, rfl, fun i o h => by simp at h⟩
  | @exact n o rest k k' c hg h hr ih =>
    obtain ⟨sp, h1, h2, h3⟩ := ih
    refine ⟨.exact c :: sp, by simp [h1], by simp [zipKnown, h2], fun i x hx => ?_⟩
    cases i with
    | zero =>
      simp at hx; subst hx
      refine ⟨.exact c, rfl, .run (by simpa [zipKnown] using hg) (fun _ _ _ _ _ _ _ _ _ h => h) (by simpa [zipKnown, Spec.holds] using h)⟩
    | succ i =>
      simp at hx
      obtain ⟨s, hs, he⟩ := h3 i x hx
      rw [show n + 1 + i = n + (i + 1) by omega] at he
      exact ⟨s, by simpa using hs, by simpa [zipKnown] using he⟩
  | @fact n o rest k k' φ hg hmono h hr ih =>
    obtain ⟨sp, h1, h2, h3⟩ := ih
    refine ⟨.fact φ :: sp, by simp [h1], by simp [zipKnown, h2], fun i x hx => ?_⟩
    cases i with
    | zero =>
      simp at hx; subst hx
      refine ⟨.fact φ, rfl, .run (by simpa [zipKnown] using hg) hmono (by simpa [zipKnown, Spec.holds] using h)⟩
    | succ i =>
      simp at hx
      obtain ⟨s, hs, he⟩ := h3 i x hx
      rw [show n + 1 + i = n + (i + 1) by omega] at he
      exact ⟨s, by simpa using hs, by simpa [zipKnown] using he⟩
  | @skip n o rest k k' hg hst hr ih =>
    obtain ⟨sp, h1, h2, h3⟩ := ih
    refine ⟨.exact undef :: sp, by simp [h1], by simp [zipKnown, h2], fun i x hx => ?_⟩
    cases i with
    | zero =>
      simp at hx; subst hx
      exact ⟨.exact undef, rfl, .skip (by simpa [zipKnown] using hg) (by simpa using hst) rfl⟩
    | succ i =>
      simp at hx
      obtain ⟨s, hs, he⟩ := h3 i x hx
      rw [show n + 1 + i = n + (i + 1) by omega] at he
      exact ⟨s, by simpa using hs, by simpa [zipKnown] using he⟩
end

structure Inv3 (l : List Oper) (n : Nat) (sp : List Spec) (R : World → World → Prop) (S : World → Prop) (St : (Nat → Bool) → World → Prop) (w : World) (a : Act) (listed : Array Bool) (a' : Act) (w' : World) : Prop where
  head : HeadInv .any l.toArray n listed
  rel : R w w'
  st : S w'
  stg : St (fun j => listed.getD j false) w'
  defers : a'.defers = a.defers
  size : a'.tmps.size = a.tmps.size
  other : ∀ t, (∀ (i : Nat) (o : Oper), i < n → l[i]? = some o → listed.getD i false = true → o.dst ≠ some t) → a'.tmps[t]? = a.tmps[t]?
  done : ∀ (i : Nat) (o : Oper) (s : Spec), i < n → l[i]? = some o → sp[i]? = some s → listed.getD i false = true → ∃ v, s.holds v w' ∧ ∀ t, o.dst = some t → a'.tmps.getD t undef = v

theorem wp_region_steps {P : Program} {id : Nat} {l : List Oper} {Q : Exit → Act → World → Prop} {a : Act} {w : World} (n m : Nat) (hm : P.follows .mixedOrders = true) (hsz : a.tmps.size = m) (hB : okB l n m = true)
    (R : World → World → Prop) (Q3 : Nat → World → World → Prop) (S : World → Prop) (St : (Nat → Bool) → World → Prop) (htr : ∀ {x y z}, R x y → R y z → R x z) (hQ : ∀ {i x y}, Q3 i x y → R x y) (hdr : R w w.drew) (hS : S w.drew) (hSt : St (fun _ => false) w.drew) (hSR : ∀ {x y}, R w x → R x y → S x → S y)
    (k' : Known) (hW : Walk3 P l.toArray R Q3 S St w a 0 (l.take n) [] k')
    (hK : ∀ d w', R w w' → S w' → (∀ j, j < n → d j = true) → St d w' → Finish (wpList P l.toArray Q (l.drop n)) w' k' a) : (Code.region id l.toArray true).wp P Q a w := by
  simp only [okB, Bool.and_eq_true, decide_eq_true_eq] at hB
  obtain ⟨⟨⟨hn, hall⟩, htail⟩, hseq⟩ := hB
  have hops : ∀ j : Nat, l.toArray[j]? = l[j]? := fun j => by simp
  have hlen : l.toArray.size = l.length := by simp
  -- the checks, one by one
  have chk : ∀ (i : Nat) (o : Oper), i < n → l[i]? = some o →
      (∀ t ∈ o.looksAt l.toArray, ∀ (j : Nat) (oj : Oper), l[j]? = some oj → oj.dst = some t → j < i ∧ Region.waitsFor .any l.toArray i j = true) ∧
      (∀ d, o.dst = some d → d < m ∧ ∀ (j : Nat) (oj : Oper), l[j]? = some oj → oj.dst = some d → i = j) ∧
      (∀ e ∈ o.after, Region.binds .any e = true → e.on < i) := by
    intro i o hi ho
    have h1 := List.all_eq_true.1 hall i (List.mem_range.2 hi)
    simp only [ho, Bool.and_eq_true] at h1
    obtain ⟨⟨h1, h2⟩, h3⟩ := h1
    refine ⟨fun t ht j oj hj hd => ?_, fun d hd => ?_, fun e he hb => ?_⟩
    · have h4 := List.all_eq_true.1 h1 t ht
      have hjl : j < l.length := (List.getElem?_eq_some_iff.1 hj).1
      have h5 := List.all_eq_true.1 h4 j (List.mem_range.2 hjl)
      simpa [hj, hd] using h5
    · rw [hd] at h2
      simp only [Bool.and_eq_true, decide_eq_true_eq] at h2
      refine ⟨h2.1, fun j oj hj hdj => ?_⟩
      have hjl : j < l.length := (List.getElem?_eq_some_iff.1 hj).1
      have h5 := List.all_eq_true.1 h2.2 j (List.mem_range.2 hjl)
      simpa [hj, hdj] using h5
    · have h4 := Array.all_eq_true_iff_forall_mem.1 h3 e he
      simpa [hb] using h4
  obtain ⟨sp, hsl, hk', hent⟩ := hW.table
  have hspl : sp.length = n := by rw [hsl]; simp; omega
  have htk : ∀ i, i < n → (l.take n)[i]? = l[i]? := fun i hi => by simp [hi]
  refine wp_region_any hm ?_
  -- whatever comes up
  have main : ∀ (f : Nat) (listed : Array Bool) (a' : Act) (w' : World), left listed n = f → Inv3 l n sp R S St w a listed a' w' → wpAny P .any l.toArray Q (f + (l.length - n)) listed a' w' := by
    intro f
    induction f with
    | zero =>
      intro listed a' w' hf inv
      rw [Nat.zero_add]
      have hlz := left_zero n hf
      have hls : listed.size = l.length := by rw [inv.head.size]; simp
      have e1 : listed = ((List.range l.length).map fun i => decide (i < n)).toArray := by
        apply Array.ext
        · simp [hls]
        · intro i h1 h2
          simp only [List.getElem_toArray, List.getElem_map, List.getElem_range]
          by_cases hi : i < n
          · have := hlz i hi
            simp [h1] at this
            simp [hi, this]
          · have := inv.head.tail i (by omega) (by rw [hlen]; omega)
            simp [h1] at this
            simp [hi, this]
      have hd : (l.drop n).length = l.length - n := by simp
      rw [← hd]
      refine wpAny_of_seq (l.drop n) n listed a' w' (fun j => by simp [List.getElem?_drop]) (by rw [hd, e1]; exact hseq) ?_
      have listedT : ∀ i, i < n → listed.getD i false = true := fun i hi => by rw [← getD_true_false (by rw [hls]; omega)]; exact hlz i hi
      have hfin := finish_elim (a' := a') k' a (fun p hp => by
        rw [hk'] at hp
        rcases zipKnown_mem _ _ _ p hp with hp | ⟨i, o, s, h1, h2, rfl⟩
        · simp at hp
        · have hi : i < n := by
            have := (List.getElem?_eq_some_iff.1 h1).1
            simp at this; omega
          rw [htk i hi] at h1
          exact inv.done i o s hi h1 h2 (listedT i hi)) (hK _ w' inv.rel inv.st listedT inv.stg)
      have e2 : putAll a' k' a = a' := by
        have e3 : (putAll a' k' a).tmps = a'.tmps := by
          apply Array.ext_getElem?
          intro t
          by_cases ht : ∃ p ∈ k', p.1 = some t
          · have hlt : t < m := by
              obtain ⟨p, hp, hpt⟩ := ht
              rw [hk'] at hp
              rcases zipKnown_mem _ _ _ p hp with hp | ⟨i, o, s, h1, h2, rfl⟩
              · simp at hp
              · have hi : i < n := by
                  have := (List.getElem?_eq_some_iff.1 h1).1
                  simp at this; omega
                rw [htk i hi] at h1
                exact ((chk i o hi h1).2.1 t hpt).1
            rw [putAll_at a' t k' a (by rw [hsz]; exact hlt) ht]
            have : t < a'.tmps.size := by rw [inv.size, hsz]; exact hlt
            simp [this]
          · rw [putAll_other a' t k' a (fun p hp he => ht ⟨p, hp, he⟩)]
            refine (inv.other t fun i o hi ho _ hd => ht ?_).symm
            obtain ⟨p, hp, hpd⟩ := zipKnown_has (l.take n) sp [] i o hsl (by rw [htk i hi]; exact ho)
            exact ⟨p, by rw [hk']; exact hp, by rw [hpd, hd]⟩
        have e4 : (putAll a' k' a).defers = a'.defers := by rw [putAll_defers, inv.defers]
        cases hp : putAll a' k' a with
        | mk t d =>
          cases ha : a' with
          | mk t' d' =>
            rw [hp] at e3 e4
            rw [ha] at e3 e4
            simp only at e3 e4
            rw [e3, e4]
      rw [e2] at hfin
      exact hfin
    | succ f ih =>
      intro listed a' w' hf inv
      have hls : listed.size = l.length := by rw [inv.head.size]; simp
      rw [show f + 1 + (l.length - n) = (f + (l.length - n)) + 1 by omega]
      obtain ⟨i0, hi0, hun0, hmin⟩ := left_pos (listed := listed) n (by omega)
      refine ⟨fun hemp => ?_, fun i hi => ?_⟩
      · exfalso
        have hl0 : i0 < l.length := by omega
        have ho0 : l[i0]? = some l[i0] := by simp [hl0]
        have : i0 ∈ Region.ready .any l.toArray listed := by
          refine mem_ready.2 ⟨hun0, l[i0], by rw [hops]; exact ho0, fun e he hb => ?_⟩
          have := (chk i0 _ hi0 ho0).2.2 e he hb
          rw [← getD_true_false (by rw [hls]; omega)]
          exact hmin _ this
        rw [hemp] at this
        cases this
      · obtain ⟨hun, o, ho, hwait⟩ := mem_ready.1 hi
        rw [hops] at ho
        have hil : i < l.length := (List.getElem?_eq_some_iff.1 ho).1
        have hin : i < n := by
          rcases Nat.lt_or_ge i n with h | h
          · exact h
          · exfalso
            have hnl : n < l.length := by omega
            have htl : Region.sinkB .any l.toArray n = true ∧ Region.chainB .any l.toArray n = true := by
              rcases Bool.or_eq_true_iff.1 htail with h' | h'
              · have : n = l.length := by simpa using h'
                omega
              · simpa using h'
            exact tail_waits htl.1 htl.2 (by rw [hlen]; exact hnl) inv.head _ i0 rfl hi0 hun0 i h hi
        obtain ⟨c1, c2, c3⟩ := chk i o hin ho
        obtain ⟨s, hs, hen⟩ := hent i o (by rw [htk i hin]; exact ho)
        have htake : (l.take n).take i = l.take i := by rw [List.take_take, Nat.min_eq_left (by omega)]
        rw [htake] at hen
        -- what is found of a temporary that the operation looks at
        have hfind : ∀ t ∈ o.looksAt l.toArray,
            ((zipKnown (l.take i) (sp.take i) []).find t = none ∧ a'.tmps[t]? = a.tmps[t]?) ∨
            ∃ s', (zipKnown (l.take i) (sp.take i) []).find t = some s' ∧ s'.holds (a'.tmps.getD t undef) w' ∧ t < a'.tmps.size := by
          intro t ht
          by_cases hw : ∃ (j : Nat) (oj : Oper), l[j]? = some oj ∧ oj.dst = some t
          · obtain ⟨j, oj, hj, hd⟩ := hw
            obtain ⟨hji, hwf⟩ := c1 t ht j oj hj hd
            obtain ⟨oi, hoi, e, he, hb, hon⟩ := Region.waitsFor_spec hwf
            rw [hops] at hoi
            have : oi = o := Option.some.inj (hoi.symm.trans ho)
            subst this
            have hlj := hwait e he hb
            rw [hon] at hlj
            have hjn : j < n := by omega
            have hjs : j < sp.length := by rw [hspl]; exact hjn
            refine .inr ⟨sp[j], ?_, ?_, ?_⟩
            · refine find_zip_some (l.take i) (sp.take i) [] j oj sp[j] (by simp [hji, hj]) (by simp [hji, hjs]) hd ?_
              intro x y hx hy
              have hxi : x < i := by
                have := (List.getElem?_eq_some_iff.1 hx).1
                simp at this; omega
              rw [List.getElem?_take_of_lt hxi] at hx
              exact ((chk j oj hjn hj).2.1 t hd).2 x y hx hy |>.symm
            · obtain ⟨v, hv, hvt⟩ := inv.done j oj sp[j] hjn hj (by simp [hjs]) hlj
              rw [hvt t hd]
              exact hv
            · rw [inv.size, hsz]; exact ((chk j oj hjn hj).2.1 t hd).1
          · refine .inl ⟨?_, ?_⟩
            · rw [find_zip_none]
              · rfl
              · intro x hx hxd
                obtain ⟨y, hy⟩ := List.getElem?_of_mem hx
                have hyi : y < i := by
                  have := (List.getElem?_eq_some_iff.1 hy).1
                  simp at this; omega
                rw [List.getElem?_take_of_lt hyi] at hy
                exact hw ⟨y, x, hy, hxd⟩
            · exact inv.other t fun j oj _ hj _ hd => hw ⟨j, oj, hj, hd⟩
        have hfi : listed.getD i false = false := by
          have := hun
          rw [← getD_true_false (by rw [hls]; exact hil)]
          exact this
        have hdset : (fun j => (listed.setIfInBounds i true).getD j false) = dset (fun j => listed.getD j false) i := by
          funext j
          by_cases hj : j = i
          · subst hj
            rw [dset_same]
            have : j < listed.size := by rw [hls]; exact hil
            simp [this]
          · rw [dset_other _ hj]
            exact getD_set_ne false (Ne.symm hj)
        rw [Nat.zero_add] at hen
        -- the next state
        have hnext : ∀ v w'', (Q3 i w' w'' ∧ St (dset (fun j => listed.getD j false) i) w'' ∧ s.holds v w'') → (∀ v w' w'', R w w' → Q3 i w' w'' → S w' → S w'' → ∀ j oj sj, j < n → j ≠ i → l[j]? = some oj → sp[j]? = some sj → sj.holds v w' → sj.holds v w'') →
            Inv3 l n sp R S St w a (listed.setIfInBounds i true) (a'.put o.dst v) w'' := by
          intro v w'' ⟨hq, hstg, hv⟩ hmono
          have hr := hQ hq
          have hSS := hSR inv.rel hr inv.st
          refine ⟨inv.head.set hi hin, htr inv.rel hr, hSS, by rw [hdset]; exact hstg, by rw [put_defers, inv.defers], by rw [put_size, inv.size], fun t ht => ?_, fun j oj sj hj hoj hsj hlj => ?_⟩
          · have h1 : o.dst ≠ some t := ht i o hin ho (by simp [hls, hil])
            rw [put_ne _ _ _ _ h1]
            exact inv.other t fun j oj hj hoj hlj => ht j oj hj hoj (getD_set_true hlj)
          · by_cases hji : j = i
            · subst hji
              have : oj = o := Option.some.inj (hoj.symm.trans ho)
              subst this
              have : sj = s := Option.some.inj (hsj.symm.trans hs)
              subst this
              refine ⟨v, hv, fun t ht => ?_⟩
              rw [ht]
              have hlt : t < a'.tmps.size := by rw [inv.size, hsz]; exact (c2 t ht).1
              have := put_eq a' v t hlt
              simp [this]
            · rw [getD_set_ne false (Ne.symm hji)] at hlj
              obtain ⟨u, hu, hut⟩ := inv.done j oj sj hj hoj hsj hlj
              refine ⟨u, hmono u w' w'' inv.rel hq inv.st hSS j oj sj hj hji hoj hsj hu, fun t ht => ?_⟩
              have hne : o.dst ≠ some t := fun e => hji ((c2 t e).2 j oj hoj ht).symm
              have := put_ne a' o.dst v t hne
              rw [← hut t ht]
              simp [this]
        have hmono : ∀ v w' w'', R w w' → Q3 i w' w'' → S w' → S w'' → ∀ j oj sj, j < n → j ≠ i → l[j]? = some oj → sp[j]? = some sj → sj.holds v w' → sj.holds v w'' := by
          intro v x y hx hxy hSx hSy j oj sj hj hji hoj hsj hh
          obtain ⟨s', hs', he⟩ := hent j oj (by rw [htk j hj]; exact hoj)
          have : s' = sj := Option.some.inj (hs'.symm.trans hsj)
          subst this
          cases he with
          | run _ hmo _ => exact hmo _ v x y (by omega) hx hxy hSx hSy hh
          | skip _ _ hsk => subst hsk; exact hh
        have hcount : left (listed.setIfInBounds i true) n = f := by have := left_set hun n hin; omega
        -- the guard
        have hguard : ∀ b, guardState l.toArray (zipKnown (l.take i) (sp.take i) []) o = some b → Region.wanted o (yielded l.toArray a'.tmps) = b := by
          intro b hb
          unfold guardState at hb
          unfold Region.wanted
          cases hgd : o.guard with
          | none => rw [hgd] at hb; simpa using hb
          | some gw =>
            obtain ⟨g, want⟩ := gw
            rw [hgd] at hb
            simp only at hb ⊢
            unfold yielded
            cases hdg : (l.toArray[g]?).bind (·.dst) with
            | none => rw [hdg] at hb; simpa using hb
            | some t =>
              rw [hdg] at hb
              simp only at hb
              have htl : t ∈ o.looksAt l.toArray := by
                unfold Oper.looksAt
                rw [hgd]
                exact List.mem_append_right _ (by show t ∈ ((l.toArray[g]?).bind (·.dst)).toList; rw [hdg]; simp)
              rcases hfind t htl with ⟨hnone, _⟩ | ⟨s', hs', hh, hlt⟩
              · rw [hnone] at hb; simp at hb
              · rw [hs'] at hb
                have ht1 : a'.tmps[t]? = some (a'.tmps.getD t undef) := by simp [hlt]
                simp only [Option.bind_some, ht1]
                cases s' with
                | fact φ => simp at hb
                | exact c =>
                  simp only [Spec.holds] at hh
                  rw [hh]
                  cases c <;> simp at hb <;> simp [← hb]
        unfold wpOp
        rw [hops, ho]
        simp only
        cases hen with
        | run hg hmo hdo =>
          rw [hguard true hg]
          simp only [if_true]
          refine .inl (Does.wp (hdo _ a'.eval w' (EvOK.of_act a') inv.rel inv.st hfi hwait inv.stg ?_) fun v w'' hp => ih _ _ _ hcount (hnext v w'' hp hmono))
          have hsub : ∀ x ∈ o.op.operands.toList, ∀ t, x = .tmp t → t ∈ o.looksAt l.toArray := fun x hx t ht =>
            List.mem_append_left _ (List.mem_filterMap.2 ⟨x, hx, by rw [ht]⟩)
          generalize o.op.operands.toList = xs at hsub
          induction xs with
          | nil => trivial
          | cons x xs ihx =>
            have htl := ihx fun y hy => hsub y (by simp [hy])
            cases x with
            | tmp t =>
              refine ⟨?_, htl⟩
              rcases hfind t (hsub _ (by simp) t rfl) with ⟨hnone, he⟩ | ⟨s', hs', hh, _⟩
              · rw [hnone]
                simp [Act.eval, he]
              · rw [hs']
                exact hh
            | const _ => exact htl
            | global _ => exact htl
            | func _ => exact htl
        | skip hg hst0 hsk =>
          rw [hguard false hg]
          simp only [Bool.false_eq_true, if_false]
          subst hsk
          -- nothing runs: the same world
          have hSS := inv.st
          refine ih _ _ _ hcount ⟨inv.head.set hi hin, inv.rel, hSS, by rw [hdset]; exact hst0 _ _ inv.rel inv.st inv.stg, by rw [put_defers, inv.defers], by rw [put_size, inv.size], fun t ht => ?_, fun j oj sj hj hoj hsj hlj => ?_⟩
          · have h1 : o.dst ≠ some t := ht i o hin ho (by simp [hls, hil])
            rw [put_ne _ _ _ _ h1]
            exact inv.other t fun j oj hj hoj hlj => ht j oj hj hoj (getD_set_true hlj)
          · by_cases hji : j = i
            · subst hji
              have : oj = o := Option.some.inj (hoj.symm.trans ho)
              subst this
              have : sj = .exact undef := Option.some.inj (hsj.symm.trans hs)
              subst this
              refine ⟨undef, rfl, fun t ht => ?_⟩
              rw [ht]
              have hlt : t < a'.tmps.size := by rw [inv.size, hsz]; exact (c2 t ht).1
              have := put_eq a' undef t hlt
              simp [this]
            · rw [getD_set_ne false (Ne.symm hji)] at hlj
              obtain ⟨u, hu, hut⟩ := inv.done j oj sj hj hoj hsj hlj
              refine ⟨u, hu, fun t ht => ?_⟩
              have hne : o.dst ≠ some t := fun e => hji ((c2 t e).2 j oj hoj ht).symm
              have := put_ne a' o.dst undef t hne
              rw [← hut t ht]
              simp [this]
  have inv0 : Inv3 l n sp R S St w a (Array.replicate l.toArray.size false) a w.drew :=
    ⟨⟨by simp, fun j oj _ hl => (by rw [getD_replicate_false] at hl; cases hl), fun t _ ht => getD_in (by simpa using ht) (getD_replicate_false _ _)⟩,
      hdr, hS, (by rw [show (fun j => (Array.replicate l.toArray.size false).getD j false) = fun _ => false from funext fun j => getD_replicate_false _ _]; exact hSt), rfl, rfl, fun _ _ => rfl, fun i o s _ _ _ hl => (by rw [getD_replicate_false] at hl; cases hl)⟩
  have := main n (Array.replicate l.toArray.size false) a w.drew (left_replicate _ n (by rw [hlen]; exact hn)) inv0
  rw [show n + (l.length - n) = l.toArray.size by rw [hlen]; omega] at this
  exact this

end Go.Mk
