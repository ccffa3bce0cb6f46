/- A region that draws its order is gone through once, in the text's order, each operation by what it leaves: whatever order is drawn. Conditions: what is said of an operation's value stays true along the relation R of worlds, and an operation may lean only on the values of its own operands. -/
import Derived.StillTail
import Derived.RegionTactic
import Derived.WalkKit
import Derived.Test.YtjpkhediolahaaaBase
set_option linter.unusedVariables false
set_option linter.unusedSimpArgs false
set_option linter.unusedSectionVars false
set_option linter.unnecessarySimpa false
namespace Go.Mk
open Go

/-- What a temporary of a region is known to hold: a value, or one of which something is said. -/
inductive Spec where
  | exact (c : Value)
  | fact (φ : Value → World → Prop)

def Spec.holds : Spec → Value → World → Prop
  | .exact c, v, _ => v = c
  | .fact φ, v, w => φ v w

abbrev Known := List (Option Tmp × Spec)

def Known.find : Known → Tmp → Option Spec
  | [], _ => none
  | (d, s) :: k, t => if d = some t then some s else Known.find k t

/-- What is known of an operation's operands. -/
def sees (k : Known) (a : Act) (ev : Operand → Value) (w : World) : List Operand → Prop
  | [] => True
  | .tmp t :: r => (match Known.find k t with
      | some s => s.holds (ev (.tmp t)) w
      | none => ev (.tmp t) = a.eval (.tmp t)) ∧ sees k a ev w r
  | _ :: r => sees k a ev w r

structure EvOK (ev : Operand → Value) : Prop where
  const : ∀ v, ev (.const v) = v
  global : ∀ g, ev (.global g) = .pointer (some ⟨g, 0, none⟩)
  func : ∀ f, ev (.func f) = .func (.func f) #[] #[]

theorem EvOK.of_act (a : Act) : EvOK a.eval := ⟨fun _ => rfl, fun _ => rfl, fun _ => rfl⟩

/-- An operation runs to its end, and leaves this. -/
def DoesRun (P : Program) (post : Value → World → Prop) : Result Next → Prop
  | .ok (.value v) w' => post v w'
  | .ok .skip w' => post undef w'
  | .ok (.enter f args) w' => Calls P f args w' fun e w'' => ∃ v, e = .returned v ∧ post v w''
  | _ => False

def Does (P : Program) (o : Oper) (ev : Operand → Value) (w : World) (post : Value → World → Prop) : Prop :=
  DoesRun P post ((execOp ev o).run P w)

theorem Does.wp {P : Program} {o : Oper} {a : Act} {w : World} {post : Value → World → Prop} {K : Act → World → Prop} {Q : Exit → Act → World → Prop}
    (h : Does P o a.eval w post) (hK : ∀ v w', post v w' → K (a.put o.dst v) w') : o.wp P a w K Q := by
  unfold Does at h
  unfold Oper.wp
  generalize (execOp a.eval o).run P w = r at *
  cases r with
  | ok n w' =>
    cases n <;> simp only [DoesRun] at h <;> simp only [Oper.upon]
    case value v => exact hK _ _ h
    case skip => exact hK _ _ h
    case enter f args =>
      refine Calls.mono h fun e w'' he => ?_
      obtain ⟨v, rfl, hp⟩ := he
      exact hK _ _ hp
  | halt x w' => simp only [DoesRun] at h

def guardState (ops : Array Oper) (k : Known) (o : Oper) : Option Bool :=
  match o.guard with
  | none => some true
  | some (g, want) =>
    match (ops[g]?).bind (·.dst) with
    | none => some false
    | some t =>
      match Known.find k t with
      | some (.exact (.bool b)) => some (b == want)
      | some (.exact _) => some false
      | _ => none

inductive Walk (P : Program) (ops : Array Oper) (R : World → World → Prop) (S : World → Prop) (w : World) (a : Act) : List Oper → Known → Known → Prop
  | nil {k : Known} : Walk P ops R S w a [] k k
  | exact {o : Oper} {rest : List Oper} {k k' : Known} (c : Value) (hg : guardState ops k o = some true)
      (h : ∀ ev w', EvOK ev → R w w' → S w' → sees k a ev w' o.op.operands.toList → Does P o ev w' fun v w'' => R w' w'' ∧ v = c)
      (hr : Walk P ops R S w a rest ((o.dst, .exact c) :: k) k') : Walk P ops R S w a (o :: rest) k k'
  | fact {o : Oper} {rest : List Oper} {k k' : Known} (φ : Value → World → Prop) (hg : guardState ops k o = some true)
      (hmono : ∀ v w' w'', R w w' → R w' w'' → S w' → S w'' → φ v w' → φ v w'')
      (h : ∀ ev w', EvOK ev → R w w' → S w' → sees k a ev w' o.op.operands.toList → Does P o ev w' fun v w'' => R w' w'' ∧ φ v w'')
      (hr : Walk P ops R S w a rest ((o.dst, .fact φ) :: k) k') : Walk P ops R S w a (o :: rest) k k'
  | skip {o : Oper} {rest : List Oper} {k k' : Known} (hg : guardState ops k o = some false)
      (hr : Walk P ops R S w a rest ((o.dst, .exact undef) :: k) k') : Walk P ops R S w a (o :: rest) k k'

def Finish (K : Act → World → Prop) (w' : World) : Known → Act → Prop
  | [], a => K a w'
  | (none, .exact _) :: k, a => Finish K w' k a
  | (none, .fact φ) :: k, a => ∀ v, φ v w' → Finish K w' k a
  | (some d, .exact c) :: k, a => Finish K w' k (a.put (some d) c)
  | (some d, .fact φ) :: k, a => ∀ v, φ v w' → Finish K w' k (a.put (some d) v)

/-! ### soundness -/
inductive Entry (P : Program) (ops : Array Oper) (R : World → World → Prop) (S : World → Prop) (w : World) (a : Act) (k : Known) (o : Oper) (s : Spec) : Prop
  | run (hg : guardState ops k o = some true) (hmono : ∀ v w' w'', R w w' → R w' w'' → S w' → S w'' → s.holds v w' → s.holds v w'')
      (h : ∀ ev w', EvOK ev → R w w' → S w' → sees k a ev w' o.op.operands.toList → Does P o ev w' fun v w'' => R w' w'' ∧ s.holds v w'')
  | skip (hg : guardState ops k o = some false) (hs : s = .exact undef)

def zipKnown : List Oper → List Spec → Known → Known
  | o :: l, s :: sp, k => zipKnown l sp ((o.dst, s) :: k)
  | _, _, k => k

section
variable {P : Program} {ops : Array Oper} {R : World → World → Prop} {S : World → Prop} {w : World} {a : Act}

theorem Walk.table {l : List Oper} {k k' : Known} (h : Walk P ops R S w a l k k') :
    ∃ sp : List Spec, sp.length = l.length ∧ k' = zipKnown l sp k ∧ ∀ i o, l[i]? = some o → ∃ s, sp[i]? = some s ∧ Entry P ops R S w a (zipKnown (l.take i) (sp.take i) k) o s := by
  induction h with
  | nil => exact ⟨[], rfl, rfl, fun i o h => by simp at h⟩
  | @exact o rest k k' c hg h hr ih =>
    obtain ⟨sp, h1, h2, h3⟩ := ih
    refine ⟨.exact c :: sp, by simp [h1], by simp [zipKnown, h2], fun i x hx => ?_⟩
    cases i with
    | zero =>
      simp at hx; subst hx
      refine ⟨.exact c, rfl, .run (by simpa [zipKnown] using hg) (fun _ _ _ _ _ _ _ h => h) (by simpa [zipKnown, Spec.holds] using h)⟩
    | succ i =>
      simp at hx
      obtain ⟨s, hs, he⟩ := h3 i x hx
      exact ⟨s, by simpa using hs, by simpa [zipKnown] using he⟩
  | @fact o rest k k' φ hg hmono h hr ih =>
    obtain ⟨sp, h1, h2, h3⟩ := ih
    refine ⟨.fact φ :: sp, by simp [h1], by simp [zipKnown, h2], fun i x hx => ?_⟩
    cases i with
    | zero =>
      simp at hx; subst hx
      refine ⟨.fact φ, rfl, .run (by simpa [zipKnown] using hg) hmono (by simpa [zipKnown, Spec.holds] using h)⟩
    | succ i =>
      simp at hx
      obtain ⟨s, hs, he⟩ := h3 i x hx
      exact ⟨s, by simpa using hs, by simpa [zipKnown] using he⟩
  | @skip o rest k k' hg hr ih =>
    obtain ⟨sp, h1, h2, h3⟩ := ih
    refine ⟨.exact undef :: sp, by simp [h1], by simp [zipKnown, h2], fun i x hx => ?_⟩
    cases i with
    | zero =>
      simp at hx; subst hx
      exact ⟨.exact undef, rfl, .skip (by simpa [zipKnown] using hg) rfl⟩
    | succ i =>
      simp at hx
      obtain ⟨s, hs, he⟩ := h3 i x hx
      exact ⟨s, by simpa using hs, by simpa [zipKnown] using he⟩

theorem find_zip_none {t : Tmp} : ∀ (l : List Oper) (sp : List Spec) (k : Known), (∀ o ∈ l, o.dst ≠ some t) → (zipKnown l sp k).find t = k.find t
  | [], _, _, _ => by simp [zipKnown]
  | o :: l, [], _, _ => by simp [zipKnown]
  | o :: l, s :: sp, k, h => by
    rw [zipKnown, find_zip_none l sp _ (fun x hx => h x (by simp [hx]))]
    simp [Known.find, h o (by simp)]

theorem find_zip_some {t : Tmp} : ∀ (l : List Oper) (sp : List Spec) (k : Known) (j : Nat) (o : Oper) (s : Spec), l[j]? = some o → sp[j]? = some s → o.dst = some t →
    (∀ i x, l[i]? = some x → x.dst = some t → i = j) → (zipKnown l sp k).find t = some s
  | [], _, _, j, _, _, h, _, _, _ => by simp at h
  | o :: l, [], _, j, _, _, _, h, _, _ => by simp at h
  | o :: l, s :: sp, k, 0, x, s', hl, hs, hd, hu => by
    simp at hl hs
    subst hl; subst hs
    rw [zipKnown, find_zip_none l sp]
    · simp [Known.find, hd]
    · intro y hy hyd
      obtain ⟨i, hi⟩ := List.getElem?_of_mem hy
      have := hu (i + 1) y (by simpa using hi) hyd
      omega
  | o :: l, s :: sp, k, j + 1, x, s', hl, hs, hd, hu => by
    simp at hl hs
    rw [zipKnown]
    exact find_zip_some l sp _ j x s' hl hs hd (fun i y hy hyd => by have := hu (i + 1) y (by simpa using hy) hyd; omega)

/-- How many of the first n are still to come. -/
def left (listed : Array Bool) : Nat → Nat
  | 0 => 0
  | n + 1 => left listed n + (if listed.getD n true = false then 1 else 0)

theorem left_set_ge {listed : Array Bool} {i : Nat} : ∀ n, n ≤ i → left (listed.setIfInBounds i true) n = left listed n
  | 0, _ => rfl
  | n + 1, h => by rw [left, left, left_set_ge n (by omega), getD_set_ne true (by omega)]

theorem left_set {listed : Array Bool} {i : Nat} (hi : listed.getD i true = false) : ∀ n, i < n → left (listed.setIfInBounds i true) n + 1 = left listed n
  | 0, h => by omega
  | n + 1, h => by
    rw [left, left]
    by_cases hn : i = n
    · subst hn
      rw [left_set_ge _ (Nat.le_refl _), hi]
      have : (listed.setIfInBounds i true).getD i true = true := by
        have hlt : i < listed.size := by
          rcases Nat.lt_or_ge i listed.size with h' | h'
          · exact h'
          · simp [Array.getElem?_eq_none h'] at hi
        simp [hlt]
      rw [this]; simp
    · rw [getD_set_ne true hn]
      have := left_set hi n (by omega)
      omega

theorem left_zero {listed : Array Bool} : ∀ n, left listed n = 0 → ∀ i, i < n → listed.getD i true = true
  | 0, _, _, h => by omega
  | n + 1, h, i, hi => by
    rw [left] at h
    by_cases hn : i = n
    · subst hn
      cases hl : listed.getD i true with
      | true => rfl
      | false => rw [hl] at h; simp at h
    · exact left_zero n (by omega) i (by omega)

theorem left_pos {listed : Array Bool} : ∀ n, left listed n ≠ 0 → ∃ i, i < n ∧ listed.getD i true = false ∧ ∀ j, j < i → listed.getD j true = true
  | 0, h => by simp [left] at h
  | n + 1, h => by
    by_cases h0 : left listed n = 0
    · refine ⟨n, by omega, ?_, left_zero n h0⟩
      rw [left, h0] at h
      cases hl : listed.getD n true with
      | false => rfl
      | true => rw [hl] at h; simp at h
    · obtain ⟨i, hi, h1, h2⟩ := left_pos n h0
      exact ⟨i, by omega, h1, h2⟩

theorem left_replicate (m : Nat) : ∀ n, n ≤ m → left (Array.replicate m false) n = n
  | 0, _ => rfl
  | n + 1, h => by
    rw [left, left_replicate m n (by omega)]
    have : (Array.replicate m false).getD n true = false := by simp [show n < m by omega]
    rw [this]; simp

/-- The look at a region, by program. -/
def okB (l : List Oper) (n m : Nat) : Bool :=
  decide (n ≤ l.length) &&
  ((List.range n).all fun i => match l[i]? with
    | none => false
    | some o =>
      ((o.looksAt l.toArray).all fun t => (List.range l.length).all fun j =>
        (l[j]?).bind (·.dst) != some t || (decide (j < i) && Region.waitsFor .any l.toArray i j)) &&
      (match o.dst with
        | some d => decide (d < m) && (List.range l.length).all fun j => i == j || (l[j]?).bind (·.dst) != some d
        | none => true) &&
      o.after.all fun e => !Region.binds .any e || decide (e.on < i)) &&
  (n == l.length || (Region.sinkB .any l.toArray n && Region.chainB .any l.toArray n)) &&
  Region.seqB .any l.toArray (l.length - n) n ((List.range l.length).map fun i => decide (i < n)).toArray

def putAll (a' : Act) (k : Known) (acc : Act) : Act :=
  k.foldl (fun acc p => acc.put p.1 (match p.1 with | some t => a'.tmps.getD t undef | none => undef)) acc

theorem put_size (a : Act) (d : Option Tmp) (v : Value) : (a.put d v).tmps.size = a.tmps.size := by cases d <;> simp [Act.put]
theorem put_defers (a : Act) (d : Option Tmp) (v : Value) : (a.put d v).defers = a.defers := by cases d <;> rfl
theorem put_ne (a : Act) (d : Option Tmp) (v : Value) (t : Tmp) (h : d ≠ some t) : (a.put d v).tmps[t]? = a.tmps[t]? := by
  cases d with
  | none => rfl
  | some d =>
    have : d ≠ t := fun e => h (by rw [e])
    simp [Act.put, Array.getElem?_setIfInBounds_ne this]
theorem put_eq (a : Act) (v : Value) (t : Tmp) (h : t < a.tmps.size) : (a.put (some t) v).tmps[t]? = some v := by
  simp [Act.put, Array.getElem?_setIfInBounds_self, h]

theorem finish_elim {K : Act → World → Prop} {w' : World} {a' : Act} : ∀ (k : Known) (acc : Act),
    (∀ p ∈ k, ∃ v, p.2.holds v w' ∧ ∀ t, p.1 = some t → a'.tmps.getD t undef = v) → Finish K w' k acc → K (putAll a' k acc) w'
  | [], acc, _, h => h
  | (none, .exact c) :: k, acc, hk, h => finish_elim k acc (fun p hp => hk p (by simp [hp])) h
  | (none, .fact φ) :: k, acc, hk, h => by
    obtain ⟨v, hv, _⟩ := hk (none, .fact φ) (by simp)
    exact finish_elim k acc (fun p hp => hk p (by simp [hp])) (h v hv)
  | (some d, .exact c) :: k, acc, hk, h => by
    obtain ⟨v, hv, he⟩ := hk (some d, .exact c) (by simp)
    have e1 := he d rfl
    simp only [Spec.holds] at hv
    subst hv
    have := finish_elim k _ (fun p hp => hk p (by simp [hp])) h
    simp only [putAll, List.foldl_cons]
    rw [e1]
    exact this
  | (some d, .fact φ) :: k, acc, hk, h => by
    obtain ⟨v, hv, he⟩ := hk (some d, .fact φ) (by simp)
    have e1 := he d rfl
    have := finish_elim k _ (fun p hp => hk p (by simp [hp])) (h v hv)
    simp only [putAll, List.foldl_cons]
    rw [e1]
    exact this

theorem putAll_size (a' : Act) : ∀ (k : Known) (acc : Act), (putAll a' k acc).tmps.size = acc.tmps.size
  | [], _ => rfl
  | p :: k, acc => by simp only [putAll, List.foldl_cons]; exact (putAll_size a' k _).trans (put_size _ _ _)
theorem putAll_defers (a' : Act) : ∀ (k : Known) (acc : Act), (putAll a' k acc).defers = acc.defers
  | [], _ => rfl
  | p :: k, acc => by simp only [putAll, List.foldl_cons]; exact (putAll_defers a' k _).trans (put_defers _ _ _)
theorem putAll_other (a' : Act) (t : Tmp) : ∀ (k : Known) (acc : Act), (∀ p ∈ k, p.1 ≠ some t) → (putAll a' k acc).tmps[t]? = acc.tmps[t]?
  | [], _, _ => rfl
  | p :: k, acc, h => by
    simp only [putAll, List.foldl_cons]
    exact (putAll_other a' t k _ (fun q hq => h q (by simp [hq]))).trans (put_ne _ _ _ _ (h p (by simp)))
theorem putAll_at (a' : Act) (t : Tmp) : ∀ (k : Known) (acc : Act), t < acc.tmps.size → (∃ p ∈ k, p.1 = some t) → (putAll a' k acc).tmps[t]? = some (a'.tmps.getD t undef)
  | [], _, _, h => by obtain ⟨p, hp, _⟩ := h; simp at hp
  | p :: k, acc, ht, h => by
    simp only [putAll, List.foldl_cons]
    by_cases hk : ∃ q ∈ k, q.1 = some t
    · exact putAll_at a' t k _ (by rw [put_size]; exact ht) hk
    · have hp : p.1 = some t := by
        obtain ⟨q, hq, he⟩ := h
        rcases List.mem_cons.1 hq with rfl | hq
        · exact he
        · exact absurd ⟨q, hq, he⟩ hk
      refine (putAll_other a' t k _ (fun q hq he => hk ⟨q, hq, he⟩)).trans ?_
      rw [hp]
      exact put_eq _ _ _ ht

theorem zipKnown_mem : ∀ (l : List Oper) (sp : List Spec) (k : Known) (p : Option Tmp × Spec), p ∈ zipKnown l sp k → p ∈ k ∨ ∃ (i : Nat) (o : Oper) (s : Spec), l[i]? = some o ∧ sp[i]? = some s ∧ p = (o.dst, s)
  | [], _, k, p, h => .inl (by simpa [zipKnown] using h)
  | o :: l, [], k, p, h => .inl (by simpa [zipKnown] using h)
  | o :: l, s :: sp, k, p, h => by
    rw [zipKnown] at h
    rcases zipKnown_mem l sp _ p h with h | ⟨i, o', s', h1, h2, h3⟩
    · rcases List.mem_cons.1 h with rfl | h
      · exact .inr ⟨0, o, s, rfl, rfl, rfl⟩
      · exact .inl h
    · exact .inr ⟨i + 1, o', s', by simpa using h1, by simpa using h2, h3⟩

theorem zipKnown_has : ∀ (l : List Oper) (sp : List Spec) (k : Known) (i : Nat) (o : Oper), sp.length = l.length → l[i]? = some o → ∃ p ∈ zipKnown l sp k, p.1 = o.dst
  | [], _, _, i, _, _, h => by simp at h
  | o :: l, [], _, i, _, h, _ => by simp at h
  | o :: l, s :: sp, k, i, x, hl, h => by
    rw [zipKnown]
    cases i with
    | zero =>
      simp at h; subst h
      have mem : ∀ (l : List Oper) (sp : List Spec) (k : Known) (q : Option Tmp × Spec), q ∈ k → q ∈ zipKnown l sp k := by
        intro l
        induction l with
        | nil => intro sp k q hq; simpa [zipKnown] using hq
        | cons y l ih =>
          intro sp k q hq
          cases sp with
          | nil => simpa [zipKnown] using hq
          | cons z sp => rw [zipKnown]; exact ih sp _ q (by simp [hq])
      exact ⟨(o.dst, s), mem l sp _ _ (by simp), rfl⟩
    | succ i => exact zipKnown_has l sp _ i x (by simpa using hl) (by simpa using h)
end

structure Inv (l : List Oper) (n : Nat) (sp : List Spec) (R : World → World → Prop) (S : World → Prop) (w : World) (a : Act) (listed : Array Bool) (a' : Act) (w' : World) : Prop where
  head : HeadInv .any l.toArray n listed
  rel : R w w'
  st : S w'
  defers : a'.defers = a.defers
  size : a'.tmps.size = a.tmps.size
  other : ∀ t, (∀ (i : Nat) (o : Oper), i < n → l[i]? = some o → listed.getD i false = true → o.dst ≠ some t) → a'.tmps[t]? = a.tmps[t]?
  done : ∀ (i : Nat) (o : Oper) (s : Spec), i < n → l[i]? = some o → sp[i]? = some s → listed.getD i false = true → ∃ v, s.holds v w' ∧ ∀ t, o.dst = some t → a'.tmps.getD t undef = v

theorem getD_true_false {listed : Array Bool} {i : Nat} (h : i < listed.size) : listed.getD i true = listed.getD i false := by simp [h]

theorem wp_region_walk {P : Program} {id : Nat} {l : List Oper} {Q : Exit → Act → World → Prop} {a : Act} {w : World} (n m : Nat) (hm : P.follows .mixedOrders = true) (hsz : a.tmps.size = m) (hB : okB l n m = true)
    (R : World → World → Prop) (S : World → Prop) (htr : ∀ {x y z}, R x y → R y z → R x z) (hdr : R w w.drew) (hS : S w.drew) (hSR : ∀ {x y}, R w x → R x y → S x → S y)
    (k' : Known) (hW : Walk P l.toArray R S w a (l.take n) [] k')
    (hK : ∀ w', R w w' → S w' → Finish (wpList P l.toArray Q (l.drop n)) w' k' a) : (Code.region id l.toArray true).wp P Q a w := by
  simp only [okB, Bool.and_eq_true, decide_eq_true_eq] at hB
  obtain ⟨⟨⟨hn, hall⟩, htail⟩, hseq⟩ := hB
  have hops : ∀ j : Nat, l.toArray[j]? = l[j]? := fun j => by simp
  have hlen : l.toArray.size = l.length := by simp
  -- the checks, one by one
  have chk : ∀ (i : Nat) (o : Oper), i < n → l[i]? = some o →
      (∀ t ∈ o.looksAt l.toArray, ∀ (j : Nat) (oj : Oper), l[j]? = some oj → oj.dst = some t → j < i ∧ Region.waitsFor .any l.toArray i j = true) ∧
      (∀ d, o.dst = some d → d < m ∧ ∀ (j : Nat) (oj : Oper), l[j]? = some oj → oj.dst = some d → i = j) ∧
      (∀ e ∈ o.after, Region.binds .any e = true → e.on < i) := by
    intro i o hi ho
    have h1 := List.all_eq_true.1 hall i (List.mem_range.2 hi)
    simp only [ho, Bool.and_eq_true] at h1
    obtain ⟨⟨h1, h2⟩, h3⟩ := h1
    refine ⟨fun t ht j oj hj hd => ?_, fun d hd => ?_, fun e he hb => ?_⟩
    · have h4 := List.all_eq_true.1 h1 t ht
      have hjl : j < l.length := (List.getElem?_eq_some_iff.1 hj).1
      have h5 := List.all_eq_true.1 h4 j (List.mem_range.2 hjl)
      simpa [hj, hd] using h5
    · rw [hd] at h2
      simp only [Bool.and_eq_true, decide_eq_true_eq] at h2
      refine ⟨h2.1, fun j oj hj hdj => ?_⟩
      have hjl : j < l.length := (List.getElem?_eq_some_iff.1 hj).1
      have h5 := List.all_eq_true.1 h2.2 j (List.mem_range.2 hjl)
      simpa [hj, hdj] using h5
    · have h4 := Array.all_eq_true_iff_forall_mem.1 h3 e he
      simpa [hb] using h4
  obtain ⟨sp, hsl, hk', hent⟩ := hW.table
  have hspl : sp.length = n := by rw [hsl]; simp; omega
  have htk : ∀ i, i < n → (l.take n)[i]? = l[i]? := fun i hi => by simp [hi]
  refine wp_region_any hm ?_
  -- whatever comes up
  have main : ∀ (f : Nat) (listed : Array Bool) (a' : Act) (w' : World), left listed n = f → Inv l n sp R S w a listed a' w' → wpAny P .any l.toArray Q (f + (l.length - n)) listed a' w' := by
    intro f
    induction f with
    | zero =>
      intro listed a' w' hf inv
      rw [Nat.zero_add]
      have hlz := left_zero n hf
      have hls : listed.size = l.length := by rw [inv.head.size]; simp
      have e1 : listed = ((List.range l.length).map fun i => decide (i < n)).toArray := by
        apply Array.ext
        · simp [hls]
        · intro i h1 h2
          simp only [List.getElem_toArray, List.getElem_map, List.getElem_range]
          by_cases hi : i < n
          · have := hlz i hi
            simp [h1] at this
            simp [hi, this]
          · have := inv.head.tail i (by omega) (by rw [hlen]; omega)
            simp [h1] at this
            simp [hi, this]
      have hd : (l.drop n).length = l.length - n := by simp
      rw [← hd]
      refine wpAny_of_seq (l.drop n) n listed a' w' (fun j => by simp [List.getElem?_drop]) (by rw [hd, e1]; exact hseq) ?_
      have listedT : ∀ i, i < n → listed.getD i false = true := fun i hi => by rw [← getD_true_false (by rw [hls]; omega)]; exact hlz i hi
      have hfin := finish_elim (a' := a') k' a (fun p hp => by
        rw [hk'] at hp
        rcases zipKnown_mem _ _ _ p hp with hp | ⟨i, o, s, h1, h2, rfl⟩
        · simp at hp
        · have hi : i < n := by
            have := (List.getElem?_eq_some_iff.1 h1).1
            simp at this; omega
          rw [htk i hi] at h1
          exact inv.done i o s hi h1 h2 (listedT i hi)) (hK w' inv.rel inv.st)
      have e2 : putAll a' k' a = a' := by
        have e3 : (putAll a' k' a).tmps = a'.tmps := by
          apply Array.ext_getElem?
          intro t
          by_cases ht : ∃ p ∈ k', p.1 = some t
          · have hlt : t < m := by
              obtain ⟨p, hp, hpt⟩ := ht
              rw [hk'] at hp
              rcases zipKnown_mem _ _ _ p hp with hp | ⟨i, o, s, h1, h2, rfl⟩
              · simp at hp
              · have hi : i < n := by
                  have := (List.getElem?_eq_some_iff.1 h1).1
                  simp at this; omega
                rw [htk i hi] at h1
                exact ((chk i o hi h1).2.1 t hpt).1
            rw [putAll_at a' t k' a (by rw [hsz]; exact hlt) ht]
            have : t < a'.tmps.size := by rw [inv.size, hsz]; exact hlt
            simp [this]
          · rw [putAll_other a' t k' a (fun p hp he => ht ⟨p, hp, he⟩)]
            refine (inv.other t fun i o hi ho _ hd => ht ?_).symm
            obtain ⟨p, hp, hpd⟩ := zipKnown_has (l.take n) sp [] i o hsl (by rw [htk i hi]; exact ho)
            exact ⟨p, by rw [hk']; exact hp, by rw [hpd, hd]⟩
        have e4 : (putAll a' k' a).defers = a'.defers := by rw [putAll_defers, inv.defers]
        cases hp : putAll a' k' a with
        | mk t d =>
          cases ha : a' with
          | mk t' d' =>
            rw [hp] at e3 e4
            rw [ha] at e3 e4
            simp only at e3 e4
            rw [e3, e4]
      rw [e2] at hfin
      exact hfin
    | succ f ih =>
      intro listed a' w' hf inv
      have hls : listed.size = l.length := by rw [inv.head.size]; simp
      rw [show f + 1 + (l.length - n) = (f + (l.length - n)) + 1 by omega]
      obtain ⟨i0, hi0, hun0, hmin⟩ := left_pos (listed := listed) n (by omega)
      refine ⟨fun hemp => ?_, fun i hi => ?_⟩
      · exfalso
        have hl0 : i0 < l.length := by omega
        have ho0 : l[i0]? = some l[i0] := by simp [hl0]
        have : i0 ∈ Region.ready .any l.toArray listed := by
          refine mem_ready.2 ⟨hun0, l[i0], by rw [hops]; exact ho0, fun e he hb => ?_⟩
          have := (chk i0 _ hi0 ho0).2.2 e he hb
          rw [← getD_true_false (by rw [hls]; omega)]
          exact hmin _ this
        rw [hemp] at this
        cases this
      · obtain ⟨hun, o, ho, hwait⟩ := mem_ready.1 hi
        rw [hops] at ho
        have hil : i < l.length := (List.getElem?_eq_some_iff.1 ho).1
        have hin : i < n := by
          rcases Nat.lt_or_ge i n with h | h
          · exact h
          · exfalso
            have hnl : n < l.length := by omega
            have htl : Region.sinkB .any l.toArray n = true ∧ Region.chainB .any l.toArray n = true := by
              rcases Bool.or_eq_true_iff.1 htail with h' | h'
              · have : n = l.length := by simpa using h'
                omega
              · simpa using h'
            exact tail_waits htl.1 htl.2 (by rw [hlen]; exact hnl) inv.head _ i0 rfl hi0 hun0 i h hi
        obtain ⟨c1, c2, c3⟩ := chk i o hin ho
        obtain ⟨s, hs, hen⟩ := hent i o (by rw [htk i hin]; exact ho)
        have htake : (l.take n).take i = l.take i := by rw [List.take_take, Nat.min_eq_left (by omega)]
        rw [htake] at hen
        -- what is found of a temporary that the operation looks at
        have hfind : ∀ t ∈ o.looksAt l.toArray,
            ((zipKnown (l.take i) (sp.take i) []).find t = none ∧ a'.tmps[t]? = a.tmps[t]?) ∨
            ∃ s', (zipKnown (l.take i) (sp.take i) []).find t = some s' ∧ s'.holds (a'.tmps.getD t undef) w' ∧ t < a'.tmps.size := by
          intro t ht
          by_cases hw : ∃ (j : Nat) (oj : Oper), l[j]? = some oj ∧ oj.dst = some t
          · obtain ⟨j, oj, hj, hd⟩ := hw
            obtain ⟨hji, hwf⟩ := c1 t ht j oj hj hd
            obtain ⟨oi, hoi, e, he, hb, hon⟩ := Region.waitsFor_spec hwf
            rw [hops] at hoi
            have : oi = o := Option.some.inj (hoi.symm.trans ho)
            subst this
            have hlj := hwait e he hb
            rw [hon] at hlj
            have hjn : j < n := by omega
            have hjs : j < sp.length := by rw [hspl]; exact hjn
            refine .inr ⟨sp[j], ?_, ?_, ?_⟩
            · refine find_zip_some (l.take i) (sp.take i) [] j oj sp[j] (by simp [hji, hj]) (by simp [hji, hjs]) hd ?_
              intro x y hx hy
              have hxi : x < i := by
                have := (List.getElem?_eq_some_iff.1 hx).1
                simp at this; omega
              rw [List.getElem?_take_of_lt hxi] at hx
              exact ((chk j oj hjn hj).2.1 t hd).2 x y hx hy |>.symm
            · obtain ⟨v, hv, hvt⟩ := inv.done j oj sp[j] hjn hj (by simp [hjs]) hlj
              rw [hvt t hd]
              exact hv
            · rw [inv.size, hsz]; exact ((chk j oj hjn hj).2.1 t hd).1
          · refine .inl ⟨?_, ?_⟩
            · rw [find_zip_none]
              · rfl
              · intro x hx hxd
                obtain ⟨y, hy⟩ := List.getElem?_of_mem hx
                have hyi : y < i := by
                  have := (List.getElem?_eq_some_iff.1 hy).1
                  simp at this; omega
                rw [List.getElem?_take_of_lt hyi] at hy
                exact hw ⟨y, x, hy, hxd⟩
            · exact inv.other t fun j oj _ hj _ hd => hw ⟨j, oj, hj, hd⟩
        -- the next state
        have hnext : ∀ v w'', (R w' w'' ∧ s.holds v w'') → (∀ v w' w'', R w w' → R w' w'' → S w' → S w'' → ∀ j oj sj, j < n → l[j]? = some oj → sp[j]? = some sj → sj.holds v w' → sj.holds v w'') →
            Inv l n sp R S w a (listed.setIfInBounds i true) (a'.put o.dst v) w'' := by
          intro v w'' ⟨hr, hv⟩ hmono
          have hSS := hSR inv.rel hr inv.st
          refine ⟨inv.head.set hi hin, htr inv.rel hr, hSS, by rw [put_defers, inv.defers], by rw [put_size, inv.size], fun t ht => ?_, fun j oj sj hj hoj hsj hlj => ?_⟩
          · have h1 : o.dst ≠ some t := ht i o hin ho (by simp [hls, hil])
            rw [put_ne _ _ _ _ h1]
            exact inv.other t fun j oj hj hoj hlj => ht j oj hj hoj (getD_set_true hlj)
          · by_cases hji : j = i
            · subst hji
              have : oj = o := Option.some.inj (hoj.symm.trans ho)
              subst this
              have : sj = s := Option.some.inj (hsj.symm.trans hs)
              subst this
              refine ⟨v, hv, fun t ht => ?_⟩
              rw [ht]
              have hlt : t < a'.tmps.size := by rw [inv.size, hsz]; exact (c2 t ht).1
              have := put_eq a' v t hlt
              simp [this]
            · rw [getD_set_ne false (Ne.symm hji)] at hlj
              obtain ⟨u, hu, hut⟩ := inv.done j oj sj hj hoj hsj hlj
              refine ⟨u, hmono u w' w'' inv.rel hr inv.st hSS j oj sj hj hoj hsj hu, fun t ht => ?_⟩
              have hne : o.dst ≠ some t := fun e => hji ((c2 t e).2 j oj hoj ht).symm
              have := put_ne a' o.dst v t hne
              rw [← hut t ht]
              simp [this]
        have hmono : ∀ v w' w'', R w w' → R w' w'' → S w' → S w'' → ∀ j oj sj, j < n → l[j]? = some oj → sp[j]? = some sj → sj.holds v w' → sj.holds v w'' := by
          intro v x y hx hxy hSx hSy j oj sj hj hoj hsj hh
          obtain ⟨s', hs', he⟩ := hent j oj (by rw [htk j hj]; exact hoj)
          have : s' = sj := Option.some.inj (hs'.symm.trans hsj)
          subst this
          cases he with
          | run _ hmo _ => exact hmo v x y hx hxy hSx hSy hh
          | skip _ hsk => subst hsk; exact hh
        have hcount : left (listed.setIfInBounds i true) n = f := by have := left_set hun n hin; omega
        -- the guard
        have hguard : ∀ b, guardState l.toArray (zipKnown (l.take i) (sp.take i) []) o = some b → Region.wanted o (yielded l.toArray a'.tmps) = b := by
          intro b hb
          unfold guardState at hb
          unfold Region.wanted
          cases hgd : o.guard with
          | none => rw [hgd] at hb; simpa using hb
          | some gw =>
            obtain ⟨g, want⟩ := gw
            rw [hgd] at hb
            simp only at hb ⊢
            unfold yielded
            cases hdg : (l.toArray[g]?).bind (·.dst) with
            | none => rw [hdg] at hb; simpa using hb
            | some t =>
              rw [hdg] at hb
              simp only at hb
              have htl : t ∈ o.looksAt l.toArray := by
                unfold Oper.looksAt
                rw [hgd]
                exact List.mem_append_right _ (by show t ∈ ((l.toArray[g]?).bind (·.dst)).toList; rw [hdg]; simp)
              rcases hfind t htl with ⟨hnone, _⟩ | ⟨s', hs', hh, hlt⟩
              · rw [hnone] at hb; simp at hb
              · rw [hs'] at hb
                have ht1 : a'.tmps[t]? = some (a'.tmps.getD t undef) := by simp [hlt]
                simp only [Option.bind_some, ht1]
                cases s' with
                | fact φ => simp at hb
                | exact c =>
                  simp only [Spec.holds] at hh
                  rw [hh]
                  cases c <;> simp at hb <;> simp [← hb]
        unfold wpOp
        rw [hops, ho]
        simp only
        cases hen with
        | run hg hmo hdo =>
          rw [hguard true hg]
          simp only [if_true]
          refine .inl (Does.wp (hdo a'.eval w' (EvOK.of_act a') inv.rel inv.st ?_) fun v w'' hp => ih _ _ _ hcount (hnext v w'' hp hmono))
          have hsub : ∀ x ∈ o.op.operands.toList, ∀ t, x = .tmp t → t ∈ o.looksAt l.toArray := fun x hx t ht =>
            List.mem_append_left _ (List.mem_filterMap.2 ⟨x, hx, by rw [ht]⟩)
          generalize o.op.operands.toList = xs at hsub
          induction xs with
          | nil => trivial
          | cons x xs ihx =>
            have htl := ihx fun y hy => hsub y (by simp [hy])
            cases x with
            | tmp t =>
              refine ⟨?_, htl⟩
              rcases hfind t (hsub _ (by simp) t rfl) with ⟨hnone, he⟩ | ⟨s', hs', hh, _⟩
              · rw [hnone]
                simp [Act.eval, he]
              · rw [hs']
                exact hh
            | const _ => exact htl
            | global _ => exact htl
            | func _ => exact htl
        | skip hg hsk =>
          rw [hguard false hg]
          simp only [Bool.false_eq_true, if_false]
          subst hsk
          -- nothing runs: the same world
          have hSS := inv.st
          refine ih _ _ _ hcount ⟨inv.head.set hi hin, inv.rel, hSS, by rw [put_defers, inv.defers], by rw [put_size, inv.size], fun t ht => ?_, fun j oj sj hj hoj hsj hlj => ?_⟩
          · have h1 : o.dst ≠ some t := ht i o hin ho (by simp [hls, hil])
            rw [put_ne _ _ _ _ h1]
            exact inv.other t fun j oj hj hoj hlj => ht j oj hj hoj (getD_set_true hlj)
          · by_cases hji : j = i
            · subst hji
              have : oj = o := Option.some.inj (hoj.symm.trans ho)
              subst this
              have : sj = .exact undef := Option.some.inj (hsj.symm.trans hs)
              subst this
              refine ⟨undef, rfl, fun t ht => ?_⟩
              rw [ht]
              have hlt : t < a'.tmps.size := by rw [inv.size, hsz]; exact (c2 t ht).1
              have := put_eq a' undef t hlt
              simp [this]
            · rw [getD_set_ne false (Ne.symm hji)] at hlj
              obtain ⟨u, hu, hut⟩ := inv.done j oj sj hj hoj hsj hlj
              refine ⟨u, hu, fun t ht => ?_⟩
              have hne : o.dst ≠ some t := fun e => hji ((c2 t e).2 j oj hoj ht).symm
              have := put_ne a' o.dst undef t hne
              rw [← hut t ht]
              simp [this]
  have inv0 : Inv l n sp R S w a (Array.replicate l.toArray.size false) a w.drew :=
    ⟨⟨by simp, fun j oj _ hl => (by rw [getD_replicate_false] at hl; cases hl), fun t _ ht => getD_in (by simpa using ht) (getD_replicate_false _ _)⟩,
      hdr, hS, rfl, rfl, fun _ _ => rfl, fun i o s _ _ _ hl => (by rw [getD_replicate_false] at hl; cases hl)⟩
  have := main n (Array.replicate l.toArray.size false) a w.drew (left_replicate _ n (by rw [hlen]; exact hn)) inv0
  rw [show n + (l.length - n) = l.toArray.size by rw [hlen]; omega] at this
  exact this

/-- The law along 'Ext M', with facts S that hold of every world that goes on from this one. -/
theorem wp_region_ext {P : Program} {id : Nat} {l : List Oper} {Q : Exit → Act → World → Prop} {a : Act} {w : World} (n m : Nat) (hm : P.follows .mixedOrders = true) (hsz : a.tmps.size = m) (hB : okB l n m = true)
    (M : Nat → Prop) (S : World → Prop) (hS : ∀ y, Ext M w y → S y)
    (k' : Known) (hW : Walk P l.toArray (Ext M) S w a (l.take n) [] k')
    (hK : ∀ w', Ext M w w' → S w' → Finish (wpList P l.toArray Q (l.drop n)) w' k' a) : (Code.region id l.toArray true).wp P Q a w :=
  wp_region_walk n m hm hsz hB (Ext M) S Ext.trans (Ext.refl _ _).drew (hS _ (Ext.refl _ _).drew) (fun hx hxy _ => hS _ (hx.trans hxy)) k' hW hK

attribute [go_sem] sees Known.find Spec.holds Does DoesRun guardState Finish Op.operands Call.operands

end Go.Mk
