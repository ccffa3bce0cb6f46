/- Worlds that go on from others, slices that are read, and maps by what they hold at a key. Conditions: each lemma bears its own. -/
import Derived.WalkKit
import Derived.Maps.Keyed
import Derived.Carry
import Derived.DeepKeys4
import Derived.Lib.Hide
import Derived.Deep.Draws
set_option linter.unusedVariables false
set_option linter.unusedSimpArgs false
set_option linter.unusedSectionVars false
set_option linter.unnecessarySimpa false
namespace Go.Mk
open Go Go.Maps Go.MapKept

/-! ### worlds -/
/-- w' goes on from w: no block of w has turned, but those of M. -/
structure Ext (M : Nat → Prop) (w w' : World) : Prop where
  os : w'.os = w.os
  tape : w'.tape = w.tape
  output : w'.output = w.output
  size : w.heap.size ≤ w'.heap.size
  block : ∀ k, k < w.heap.size → ¬ M k → w'.heap[k]? = w.heap[k]?

def Nope : Nat → Prop := fun _ => False

theorem Ext.refl (M : Nat → Prop) (w : World) : Ext M w w := ⟨rfl, rfl, rfl, Nat.le_refl _, fun _ _ _ => rfl⟩
theorem Ext.trans {M : Nat → Prop} {a b c : World} (h : Ext M a b) (k : Ext M b c) : Ext M a c :=
  ⟨k.os.trans h.os, k.tape.trans h.tape, k.output.trans h.output, Nat.le_trans h.size k.size, fun i hi hM => (k.block i (Nat.lt_of_lt_of_le hi h.size) hM).trans (h.block i hi hM)⟩
/-- What has turned may be new in the elder world. -/
theorem Ext.trans' {M M' : Nat → Prop} {a b c : World} (h : Ext M a b) (k : Ext M' b c) (hM : ∀ i, M' i → M i ∨ a.heap.size ≤ i) : Ext M a c :=
  ⟨k.os.trans h.os, k.tape.trans h.tape, k.output.trans h.output, Nat.le_trans h.size k.size, fun i hi hn =>
    (k.block i (Nat.lt_of_lt_of_le hi h.size) (fun h' => by rcases hM i h' with h' | h'; exact hn h'; omega)).trans (h.block i hi hn)⟩
theorem Ext.mono {M M' : Nat → Prop} {w w' : World} (h : Ext M w w') (hM : ∀ k, M k → M' k) : Ext M' w w' :=
  ⟨h.os, h.tape, h.output, h.size, fun k hk hn => h.block k hk fun h' => hn (hM k h')⟩
theorem Ext.nope {M : Nat → Prop} {w w' : World} (h : Ext Nope w w') : Ext M w w' := h.mono fun _ h => h.elim
theorem Ext.alloc {M : Nat → Prop} {a w : World} (h : Ext M a w) (o : Obj) : Ext M a (w.alloc o) :=
  h.trans ⟨rfl, rfl, rfl, by simp, fun k hk _ => by show (w.heap.push o)[k]? = _; rw [Array.getElem?_push, if_neg (by omega)]⟩
theorem Ext.drew {M : Nat → Prop} {a w : World} (h : Ext M a w) : Ext M a w.drew := ⟨h.os, h.tape, h.output, h.size, h.block⟩
theorem Ext.drewN {M : Nat → Prop} {a w : World} (h : Ext M a w) (n : Nat) : Ext M a (w.drewN n) := ⟨h.os, h.tape, h.output, h.size, h.block⟩
theorem Ext.setCell {M : Nat → Prop} {a w : World} (h : Ext M a w) {p : Addr} (hp : M p.block ∨ a.heap.size ≤ p.block) (u : Value) : Ext M a (w.setCell p u) :=
  ⟨h.os, h.tape, h.output, by have := h.size; simpa [World.setCell] using this, fun k hk hn => by
    have hne : p.block ≠ k := fun e => by rcases hp with hp | hp; exact hn (e ▸ hp); omega
    simp only [World.setCell, Array.getElem?_modify]
    rw [if_neg hne]
    exact h.block k hk hn⟩
theorem Ext.grown {M : Nat → Prop} {a w w' : World} {row : Option Nat} (h : Ext M a w) (hg : w.grownBy w' row) (hr : ∀ k, row = some k → M k ∨ a.heap.size ≤ k) : Ext M a w' :=
  ⟨hg.os.trans h.os, hg.tape.trans h.tape, hg.output.trans h.output, Nat.le_trans h.size hg.size, fun k hk hn =>
    (hg.block k (Nat.lt_of_lt_of_le hk h.size) (fun e => by rcases hr k e.symm with h' | h'; exact hn h'; omega)).trans (h.block k hk hn)⟩
theorem Ext.heap {M : Nat → Prop} {w w' : World} (h : Ext M w w') {k : Nat} {o : Obj} (hk : w.heap[k]? = some o) (hn : ¬ M k) : w'.heap[k]? = some o := by
  have hlt : k < w.heap.size := (Array.getElem?_eq_some_iff.1 hk).1
  rw [h.block k hlt hn, hk]
theorem Ext.cell {M : Nat → Prop} {w w' : World} (h : Ext M w w') {a : Addr} {v : Value} (hc : w.cell? a = some v) (hn : ¬ M a.block) : w'.cell? a = some v := by
  have hlt := World.block_lt_of_cell? w a hc
  rw [← hc]
  simp only [World.cell?, h.block a.block hlt hn]
theorem Ext.frozen {M : Nat → Prop} {w w' : World} (h : Ext M w w') {a : Addr} (hlt : a.block < w.heap.size) (hn : ¬ M a.block) : w'.frozen? a = w.frozen? a := by
  simp only [World.frozen?, h.block a.block hlt hn]
theorem Ext.below {M : Nat → Prop} {w w' : World} (h : Ext M w w') {B : Nat} (hB : B ≤ w.heap.size) (hM : ∀ k, M k → B ≤ k) : RowKit.Below B w w' :=
  ⟨h.os, h.tape, h.output, h.size, fun k hk => h.block k (by omega) fun h' => by have := hM k h'; omega⟩

theorem cell_set_far (w : World) (p a : Addr) (v : Value) (h : p.block ≠ a.block) : (w.setCell p v).cell? a = w.cell? a := by
  simp only [World.cell?, World.setCell, Array.getElem?_modify]
  rw [if_neg h]

/-- The blocks of M are maps. -/
def OnMaps (M : Nat → Prop) (w : World) : Prop := ∀ k, M k → ∃ es clock, w.heap[k]? = some (.map es clock)

theorem OnMaps.cell {M : Nat → Prop} {w : World} (h : OnMaps M w) {a : Addr} {v : Value} (hc : w.cell? a = some v) : ¬ M a.block := by
  intro hM
  obtain ⟨es, clock, hb⟩ := h _ hM
  simp [World.cell?, hb] at hc

/-! ### slices that are read -/
/-- v is a slice of n elements of 'size' cells each; xs are their cells. -/
def SliceAt (w : World) (size : Nat) (v : Value) (n : Nat) (xs : List Value) : Prop :=
  xs.length = n * size ∧ ∃ a cap, v = .slice a n cap ∧ n ≤ cap ∧ cap ≤ maxLen ∧ (a = none → cap = 0) ∧ ∀ ad, a = some ad → ∀ j u, xs[j]? = some u → w.cell? (ad.add j) = some u

theorem Addr.add_block (a : Addr) (n : Nat) : (a.add n).block = a.block := by unfold Addr.add; split <;> rfl

theorem SliceAt.ext {M : Nat → Prop} {w w' : World} {size n : Nat} {v : Value} {xs : List Value} (h : SliceAt w size v n xs) (he : Ext M w w') (hn : ∀ a l c, v = .slice (some a) l c → ¬ M a.block) : SliceAt w' size v n xs := by
  obtain ⟨h1, a, cap, rfl, h2, h3, h4, h5⟩ := h
  exact ⟨h1, a, cap, rfl, h2, h3, h4, fun ad ha j u hu => he.cell (h5 ad ha j u hu) (by rw [Addr.add_block]; exact hn ad n cap (by rw [ha]))⟩
theorem SliceAt.extM {M : Nat → Prop} {w w' : World} {size n : Nat} {v : Value} {xs : List Value} (h : SliceAt w size v n xs) (he : Ext M w w') (hM : OnMaps M w) : SliceAt w' size v n xs := by
  obtain ⟨h1, a, cap, rfl, h2, h3, h4, h5⟩ := h
  refine ⟨h1, a, cap, rfl, h2, h3, h4, fun ad ha j u hu => ?_⟩
  have hc := h5 ad ha j u hu
  exact he.cell hc (hM.cell hc)
theorem SliceAt.nil (w : World) (size : Nat) : SliceAt w size (.slice none 0 0) 0 [] := ⟨by simp, none, 0, rfl, Nat.le_refl _, Nat.zero_le _, fun _ => rfl, fun _ h => (by cases h)⟩
theorem SliceAt.of_own {w : World} {base : Nat} {e : TypeId} {size n : Nat} {v : Value} {xs : List Value} (h : w.ownsRow base e size v n xs) : SliceAt w size v n xs := by
  have hc := fun g hg => h.cells (g := g) hg
  obtain ⟨h1, ⟨rfl, rfl⟩ | ⟨g, cap, cur, rfl, _, _, hn, hm, _, _⟩⟩ := h
  · exact ⟨h1, none, 0, rfl, Nat.le_refl _, Nat.zero_le _, fun _ => rfl, fun _ h => (by cases h)⟩
  · exact ⟨h1, _, cap, rfl, hn, hm, fun h => (by cases h), fun ad ha j u hu => by cases ha; exact hc g rfl j u hu⟩

theorem ownsRow_ext {M : Nat → Prop} {w w' : World} {base : Nat} {e : TypeId} {size n : Nat} {v : Value} {xs : List Value} (h : w.ownsRow base e size v n xs) (he : Ext M w w') (hn : ∀ k, M k → k < base) : w'.ownsRow base e size v n xs := by
  obtain ⟨h1, ⟨rfl, rfl⟩ | ⟨g, cap, cur, rfl, h2, h3, h4⟩⟩ := h
  · exact ⟨h1, .inl ⟨rfl, rfl⟩⟩
  · exact ⟨h1, .inr ⟨g, cap, cur, rfl, h2, he.heap h3 (fun hM => by have := hn g hM; omega), h4⟩⟩
theorem ownsRow_base {w : World} {base base' : Nat} {e : TypeId} {size n : Nat} {v : Value} {xs : List Value} (h : w.ownsRow base e size v n xs) (hb : base' ≤ base) : w.ownsRow base' e size v n xs := by
  obtain ⟨h1, h2 | ⟨g, cap, cur, rfl, h2, h3⟩⟩ := h
  · exact ⟨h1, .inl h2⟩
  · exact ⟨h1, .inr ⟨g, cap, cur, rfl, by omega, h3⟩⟩

/-- A row of the call's own that has an element: where it lies. -/
theorem own_head {w : World} {base : Nat} {e : TypeId} {n : Nat} {a : Option Addr} {cap : Nat} {xs : List Value} (h : w.ownsRow base e 1 (.slice a n cap) n xs) (hn : 0 < n) :
    ∃ (g : Nat) (cur : Array Value), a = some ⟨g, 0, none⟩ ∧ base ≤ g ∧ w.heap[g]? = some (.cells cur e (0, 0)) ∧ cur.size = cap ∧ cur.toList.take n = xs ∧ n ≤ cap ∧ cap ≤ maxLen := by
  obtain ⟨h1, ⟨he, h2⟩ | ⟨g, cap', cur, he, h2, h3, h4, h5, h6, h7⟩⟩ := h
  · omega
  · simp only [Value.slice.injEq] at he
    obtain ⟨rfl, -, rfl⟩ := he
    exact ⟨g, cur, rfl, h2, h3, by simpa using h6, by simpa using h7, h4, h5⟩

/-- A slice of bytes. -/
def byteV (b : UInt8) : Value := .int .u8 b.toNat
def BytesAt (w : World) (v : Value) (bs : List UInt8) : Prop := SliceAt w 1 v bs.length (bs.map byteV)
/-- A slice of slices of bytes. -/
def RowsAt (w : World) (v : Value) (rows : List (List UInt8)) : Prop :=
  ∃ vs : List Value, SliceAt w 1 v rows.length vs ∧ ∀ (i : Nat) (x : Value) (r : List UInt8), vs[i]? = some x → rows[i]? = some r → BytesAt w x r
/-- The same, its cells' values named. -/
def RowsV (w : World) (v : Value) (vs : List Value) (rows : List (List UInt8)) : Prop :=
  SliceAt w 1 v rows.length vs ∧ ∀ (i : Nat) (x : Value) (r : List UInt8), vs[i]? = some x → rows[i]? = some r → BytesAt w x r
theorem BytesAt.extM {M : Nat → Prop} {w w' : World} {v : Value} {bs : List UInt8} (h : BytesAt w v bs) (he : Ext M w w') (hM : OnMaps M w) : BytesAt w' v bs := SliceAt.extM h he hM
theorem RowsAt.extM {M : Nat → Prop} {w w' : World} {v : Value} {rows : List (List UInt8)} (h : RowsAt w v rows) (he : Ext M w w') (hM : OnMaps M w) : RowsAt w' v rows := by
  obtain ⟨vs, h1, h2⟩ := h
  exact ⟨vs, h1.extM he hM, fun i x r hx hr => (h2 i x r hx hr).extM he hM⟩
theorem onMaps_nope (w : World) : OnMaps Nope w := fun _ h => h.elim

/-- A slice whose memory is a block of cells of this type. -/
def TypedAt (w : World) (e : TypeId) (v : Value) : Prop := ∀ (ad : Addr) (n cap : Nat), v = .slice (some ad) n cap → ∃ c fr, w.heap[ad.block]? = some (.cells c e fr)
/-- The blocks of M are maps, or cells of another type than e, and no numbers. -/
def OnHard (e : TypeId) (M : Nat → Prop) (w : World) : Prop :=
  ∀ k, M k → (∃ es clock, w.heap[k]? = some (.map es clock)) ∨ ∃ c t fr, w.heap[k]? = some (.cells c t fr) ∧ t ≠ e ∧ ∀ (j : Nat) (kd : IntKind) (z : Int), c[j]? ≠ some (.int kd z)
theorem OnMaps.hard {e : TypeId} {M : Nat → Prop} {w : World} (h : OnMaps M w) : OnHard e M w := fun k hk => .inl (h k hk)
theorem onHard_nope (e : TypeId) (w : World) : OnHard e Nope w := fun _ h => h.elim
theorem OnHard.int {e : TypeId} {M : Nat → Prop} {w : World} (h : OnHard e M w) {a : Addr} {kd : IntKind} {z : Int} (hc : w.cell? a = some (.int kd z)) : ¬ M a.block := by
  intro hM
  rcases h _ hM with ⟨es, clock, hb⟩ | ⟨c, t, fr, hb, _, hz⟩
  · simp [World.cell?, hb] at hc
  · simp only [World.cell?, hb] at hc
    simp at hc
    exact hz a.off kd z hc.2
theorem OnHard.typed {e : TypeId} {M : Nat → Prop} {w : World} (h : OnHard e M w) {k : Nat} {c : Array Value} {fr : Nat × Nat} (hc : w.heap[k]? = some (.cells c e fr)) : ¬ M k := by
  intro hM
  rcases h _ hM with ⟨es, clock, hb⟩ | ⟨c', t, fr', hb, ht, _⟩
  · rw [hb] at hc; cases hc
  · rw [hb] at hc
    simp only [Option.some.injEq, Obj.cells.injEq] at hc
    exact ht hc.2.1
theorem TypedAt.extH {e : TypeId} {M : Nat → Prop} {w w' : World} {v : Value} (h : TypedAt w e v) (he : Ext M w w') (hM : OnHard e M w) : TypedAt w' e v := fun ad n cap hv => by
  obtain ⟨c, fr, hc⟩ := h ad n cap hv
  exact ⟨c, fr, he.heap hc (hM.typed hc)⟩
theorem TypedAt.none (w : World) (e : TypeId) (n cap : Nat) : TypedAt w e (.slice none n cap) := fun ad n cap h => by simp at h
theorem TypedAt.of_own {w : World} {base : Nat} {e : TypeId} {size n : Nat} {v : Value} {xs : List Value} (h : w.ownsRow base e size v n xs) : TypedAt w e v := fun ad n' cap' hv => by
  obtain ⟨_, ⟨rfl, _⟩ | ⟨g, cap, cur, rfl, _, h3, _⟩⟩ := h
  · simp at hv
  · simp only [Value.slice.injEq, Option.some.injEq] at hv
    obtain ⟨rfl, -, -⟩ := hv
    exact ⟨_, _, h3⟩
theorem BytesAt.extH {e : TypeId} {M : Nat → Prop} {w w' : World} {v : Value} {bs : List UInt8} (h : BytesAt w v bs) (he : Ext M w w') (hM : OnHard e M w) : BytesAt w' v bs := by
  obtain ⟨h1, a, cap, rfl, h2, h3, h4, h5⟩ := h
  refine ⟨h1, a, cap, rfl, h2, h3, h4, fun ad ha j u hu => ?_⟩
  have hc := h5 ad ha j u hu
  simp only [List.getElem?_map, Option.map_eq_some_iff] at hu
  obtain ⟨b, _, rfl⟩ := hu
  exact he.cell hc (hM.int hc)
/-- Rows of bytes, the rows' own memory of this type. -/
def RowsT (e : TypeId) (w : World) (v : Value) (rows : List (List UInt8)) : Prop := RowsAt w v rows ∧ TypedAt w e v
theorem RowsT.extH {e : TypeId} {M : Nat → Prop} {w w' : World} {v : Value} {rows : List (List UInt8)} (h : RowsT e w v rows) (he : Ext M w w') (hM : OnHard e M w) : RowsT e w' v rows := by
  obtain ⟨⟨vs, h1, h2⟩, h3⟩ := h
  refine ⟨⟨vs, h1.ext he fun a l c hv => ?_, fun i x r hx hr => (h2 i x r hx hr).extH he hM⟩, h3.extH he hM⟩
  obtain ⟨c', fr, hc⟩ := h3 a l c hv
  exact hM.typed hc

/-- 'append' onto a slice that is as long as it may be: new memory. -/
theorem run_append_full {P : Program} (w : World) (t ty e : TypeId) (i : TypeInfo) (z : Value) (size bytes : Nat) (ht : P.underlying t = some (.slice e)) (hi : P.info? e = some i) (hz : i.zero = some z)
    (hsize : i.size = size) (hby : i.bytes = bytes) (hzs : z.cells.size = size)
    (a : Option Addr) (n : Nat) (xs : List Value) (hs : SliceAt w size (.slice a n n) n xs)
    (ad : Addr) (m c : Nat) (news : List Value) (hl : news.length = m * size) (hnews : ∀ j u, news[j]? = some u → w.cell? (ad.add j) = some u)
    (hm : 0 < m) (h63 : n + m ≤ maxLen) (hbytes : (n + m) * bytes ≤ 140737488355328) :
    ∃ v' w', (Builtin.append_ #[t, t] ty #[.slice a n n, .slice (some ad) m c]).run P w = .ok v' w' ∧ w'.ownsRow w.heap.size e size v' (n + m) (xs ++ news) ∧ Ext Nope w w' := by
  subst hsize
  subst hby
  have hsmall : n + m ≤ 9223372036854775807 := by simp only [maxLen] at h63; omega
  obtain ⟨hxl, a', cap', he, _, _, hnone, hcells⟩ := hs
  cases he
  have hlen : (xs ++ news).length = (n + m) * i.size := by rw [List.length_append, hxl, hl, Nat.add_mul]
  have grown : ∀ (old : Nat), old < n + m →
      (w.drew.alloc (.cells (xs.toArray ++ news.toArray ++ Builtin.zeroCells z.cells (grownCap w (n + m) old e - (n + m))) e)).ownsRow w.heap.size e i.size
        (.slice (some ⟨w.heap.size, 0, none⟩) (n + m) (grownCap w (n + m) old e)) (n + m) (xs ++ news) ∧
      Ext Nope w (w.drew.alloc (.cells (xs.toArray ++ news.toArray ++ Builtin.zeroCells z.cells (grownCap w (n + m) old e - (n + m))) e)) := by
    intro old ho
    have hge := grownCap_ge w (n + m) old e
    have hcm : grownCap w (n + m) old e ≤ maxLen := grownCap_le_maxLen w (n + m) old e h63
    refine ⟨⟨hlen, .inr ⟨w.heap.size, _, _, rfl, Nat.le_refl _, heap_alloc_new w.drew _, hge, hcm, ?_, ?_⟩⟩, ((Ext.refl _ _).drew).alloc _⟩
    · simp only [Array.size_append, List.size_toArray, size_zeroCells, hzs, hxl, hl, ← Nat.add_mul]
      congr 1
      omega
    · simp only [Array.toList_append, List.append_assoc]
      rw [← List.append_assoc, ← hlen]
      exact List.take_left
  cases a with
  | none =>
    obtain rfl : n = 0 := hnone rfl
    obtain rfl : xs = [] := List.eq_nil_of_length_eq_zero (by simpa using hxl)
    have hr := run_append_nil (P := P) w t ty e i z ht hi hz ad m c news hl hnews hm (by omega) (by have hb := hbytes; simp only [Nat.zero_add] at hb; omega)
    have hgr := grown 0 (by omega)
    simp only [Nat.zero_add, List.nil_append, Array.empty_append] at hgr ⊢
    exact ⟨_, _, hr, hgr.1, hgr.2⟩
  | some a0 =>
    have hr := run_append_grow (P := P) w t ty e i z ht hi hz a0 n n xs hxl (hcells a0 rfl) ad m c news hl hnews (by omega) (by omega) (growslice_fits (by omega) hbytes)
    have hgr := grown n (by omega)
    exact ⟨_, _, hr, hgr.1, hgr.2⟩

/-! ### maps, by what they hold -/
section
variable {κ : Type}
/-- Block b is a map; M tells its element at each key. -/
def MapAt (P : Program) (kt : TypeId) (enc : κ → Value) (ok : κ → Prop) (w : World) (b : Nat) (M : κ → Option Value) : Prop :=
  ∃ es clock, w.heap[b]? = some (.map es clock) ∧ Stamped es clock ∧ (∀ e ∈ es.toList, ∃ x, ok x ∧ e.key = enc x ∧ M x = some e.val) ∧ (∀ x v, M x = some v → ok x ∧ ∃ e ∈ es.toList, e.key = enc x ∧ e.val = v)

/-- How keys are written. -/
structure Enc (P : Program) (kt : TypeId) (enc : κ → Value) (ok : κ → Prop) : Prop where
  law : Keyed P kt
  key : ∀ x, ok x → ∃ l, keyOf P kt (enc x) = some l
  inj : ∀ x y, enc x = enc y → x = y

variable {P : Program} {kt : TypeId} {enc : κ → Value} {ok : κ → Prop} {w : World} {b : Nat} {M : κ → Option Value}

theorem MapAt.map (h : MapAt P kt enc ok w b M) : ∃ es clock, w.heap[b]? = some (.map es clock) := by
  obtain ⟨es, clock, hb, _⟩ := h
  exact ⟨es, clock, hb⟩
theorem MapAt.lt (h : MapAt P kt enc ok w b M) : b < w.heap.size := by
  obtain ⟨es, clock, hb, _⟩ := h
  exact (Array.getElem?_eq_some_iff.1 hb).1
theorem MapAt.same {w' : World} (h : MapAt P kt enc ok w b M) (he : w'.heap[b]? = w.heap[b]?) : MapAt P kt enc ok w' b M := by
  obtain ⟨es, clock, hb, hr⟩ := h
  exact ⟨es, clock, by rw [he]; exact hb, hr⟩
theorem MapAt.ext {N : Nat → Prop} {w' : World} (h : MapAt P kt enc ok w b M) (he : Ext N w w') (hn : ¬ N b) : MapAt P kt enc ok w' b M :=
  h.same (he.block b h.lt hn)
theorem MapAt.made (w : World) : MapAt P kt enc ok (w.alloc (.map #[] 0)) w.heap.size (fun _ => none) :=
  ⟨#[], 0, (MapKept.heap_alloc w _).1, stamped_empty 0, fun e h => (by simp at h), fun x v h => (by simp at h)⟩

theorem keys_of (E : Enc P kt enc ok) {es : Array MapEntry} (hk : ∀ e ∈ es.toList, ∃ x, ok x ∧ e.key = enc x ∧ M x = some e.val) : ∀ e ∈ es.toList, ∃ l, keyOf P kt e.key = some l := by
  intro e he
  obtain ⟨x, hx, hke, _⟩ := hk e he
  rw [hke]
  exact E.key x hx

theorem MapAt.lookup (h : MapAt P kt enc ok w b M) (E : Enc P kt enc ok) {t e : TypeId} (ht : P.underlying t = some (.map kt e)) {z : Value} (hz : (zeroValue e).run P w = .ok z w) (x : κ) (hx : ok x) (c : Bool) :
    (Instr.lookup t (.map (some b)) (enc x) c).run P w = .ok (if c then .tuple #[(M x).getD z, .bool (M x).isSome] else (M x).getD z) w := by
  obtain ⟨es, clock, hb, hs, hk, hv⟩ := h
  obtain ⟨l, hl⟩ := E.key x hx
  rcases E.law.find w hl es.toList (keys_of E hk) with ⟨h1, h2⟩ | ⟨j, e0, h1, h2, h3⟩
  · have hM : M x = none := by
      cases hm : M x with
      | none => rfl
      | some v =>
        obtain ⟨_, e1, he1, hke, _⟩ := hv x v hm
        exact absurd hke (h2 e1 he1)
    rw [hM]
    cases c <;> simp [Instr.lookup, run_underlying ht, MapKept.run_getObj_map hb, E.law.check w _ hl, h1, hz, Result.andThen]
  · have hmem : e0 ∈ es.toList := List.mem_of_getElem? h2
    obtain ⟨y, hy, hke, hMy⟩ := hk e0 hmem
    have hxy : y = x := E.inj _ _ (hke.symm.trans h3)
    rw [← hxy, hMy]
    subst hxy
    cases c <;> simp [Instr.lookup, run_underlying ht, MapKept.run_getObj_map hb, E.law.check w _ hl, h1, Result.andThen]

open Classical in
/-- M with another element at x. -/
noncomputable def put (M : κ → Option Value) (x : κ) (v : Value) : κ → Option Value := fun y => if y = x then some v else M y
open Classical in
/-- M without an element at x. -/
noncomputable def del (M : κ → Option Value) (x : κ) : κ → Option Value := fun y => if y = x then none else M y
theorem put_same (M : κ → Option Value) (x : κ) (v : Value) : put M x v x = some v := by simp [put]
theorem put_other (M : κ → Option Value) {x y : κ} (v : Value) (h : y ≠ x) : put M x v y = M y := by simp [put, h]
theorem del_same (M : κ → Option Value) (x : κ) : del M x x = none := by simp [del]
theorem del_other (M : κ → Option Value) {x y : κ} (h : y ≠ x) : del M x y = M y := by simp [del, h]

/-- One block has turned. -/
structure One (w w' : World) (b : Nat) : Prop where
  os : w'.os = w.os
  tape : w'.tape = w.tape
  output : w'.output = w.output
  drawn : w'.drawn = w.drawn
  size : w'.heap.size = w.heap.size
  block : ∀ k, k ≠ b → w'.heap[k]? = w.heap[k]?
theorem One.ext {w w' : World} {b : Nat} (h : One w w' b) : Ext (· = b) w w' := ⟨h.os, h.tape, h.output, Nat.le_of_eq h.size.symm, fun k _ hn => h.block k hn⟩
theorem One.cell {w w' : World} {b : Nat} (h : One w w' b) (hb : ∃ es clock, w.heap[b]? = some (.map es clock)) (hb' : ∃ es clock, w'.heap[b]? = some (.map es clock)) (a : Addr) : w'.cell? a = w.cell? a := by
  by_cases e : a.block = b
  · obtain ⟨es, c, h1⟩ := hb
    obtain ⟨es', c', h2⟩ := hb'
    simp [World.cell?, e, h1, h2]
  · simp only [World.cell?, h.block _ e]
theorem one_set {w : World} {b : Nat} {o o' : Obj} (hb : w.heap[b]? = some o) : One w { w with heap := w.heap.setIfInBounds b o' } b :=
  ⟨rfl, rfl, rfl, rfl, by simp, fun k hk => (heap_set hb).2 k hk⟩

theorem mapAt_push (E : Enc P kt enc ok) {es : Array MapEntry} {clock : Nat} (hs : Stamped es clock) (hk : ∀ e ∈ es.toList, ∃ x, ok x ∧ e.key = enc x ∧ M x = some e.val) (hv : ∀ x v, M x = some v → ok x ∧ ∃ e ∈ es.toList, e.key = enc x ∧ e.val = v)
    {x : κ} (hx : ok x) (hne : ∀ e ∈ es.toList, e.key ≠ enc x) (v : Value) {w' : World} (hb' : w'.heap[b]? = some (.map (es.push { key := enc x, val := v, born := clock }) (clock + 1))) : MapAt P kt enc ok w' b (put M x v) := by
  refine ⟨_, _, hb', stamped_push hs hne, fun e he => ?_, fun y u hu => ?_⟩
  · simp only [Array.toList_push, List.mem_append, List.mem_singleton] at he
    rcases he with he | rfl
    · obtain ⟨y, hy, hke, hM⟩ := hk e he
      have : y ≠ x := fun e1 => hne e he (by rw [hke, e1])
      exact ⟨y, hy, hke, by rw [put_other _ _ this]; exact hM⟩
    · exact ⟨x, hx, rfl, put_same _ _ _⟩
  · by_cases e : y = x
    · subst e
      rw [put_same] at hu
      cases hu
      exact ⟨hx, { key := enc y, val := v, born := clock }, by simp, rfl, rfl⟩
    · rw [put_other _ _ e] at hu
      obtain ⟨h1, e1, h2, h3, h4⟩ := hv y u hu
      exact ⟨h1, e1, by simp at h2 ⊢; exact .inl h2, h3, h4⟩

theorem mapAt_modify (E : Enc P kt enc ok) {es : Array MapEntry} {clock : Nat} (hs : Stamped es clock) (hk : ∀ e ∈ es.toList, ∃ x, ok x ∧ e.key = enc x ∧ M x = some e.val) (hv : ∀ x v, M x = some v → ok x ∧ ∃ e ∈ es.toList, e.key = enc x ∧ e.val = v)
    {x : κ} (hx : ok x) {i : Nat} {e0 : MapEntry} (hi : es[i]? = some e0) (hke : e0.key = enc x) (v : Value) (f : MapEntry → MapEntry) (hf : f e0 = { e0 with key := enc x, val := v }) (hfb : ∀ e, (f e).born = e.born) {w' : World} (hb' : w'.heap[b]? = some (.map (es.modify i f) clock)) :
    MapAt P kt enc ok w' b (put M x v) := by
  have hget : ∀ j, (es.modify i f)[j]? = if i = j then (es[j]?).map f else es[j]? := fun j => by rw [Array.getElem?_modify]
  have hstp := (stamped_iff es clock).1 hs
  have hap : ∀ e ∈ es.toList, ∀ j, es[j]? = some e → j ≠ i → e.key ≠ enc x := by
    intro e he j hj hji hk1
    have hpw := hstp.2.2
    have hj' : es.toList[j]? = some e := by simpa using hj
    have hi' : es.toList[i]? = some e0 := by simpa using hi
    rcases Nat.lt_or_gt_of_ne hji with h | h
    · have := List.pairwise_iff_getElem.1 hpw j i (List.getElem?_eq_some_iff.1 hj').1 (List.getElem?_eq_some_iff.1 hi').1 h
      rw [(List.getElem?_eq_some_iff.1 hj').2, (List.getElem?_eq_some_iff.1 hi').2] at this
      exact this (hk1.trans hke.symm)
    · have := List.pairwise_iff_getElem.1 hpw i j (List.getElem?_eq_some_iff.1 hi').1 (List.getElem?_eq_some_iff.1 hj').1 h
      rw [(List.getElem?_eq_some_iff.1 hj').2, (List.getElem?_eq_some_iff.1 hi').2] at this
      exact this (hke.trans hk1.symm)
  refine ⟨_, _, hb', stamped_modify hs i f (fun e _ => hfb e) (fun e _ he => ?_), fun e he => ?_, fun y u hu => ?_⟩
  · have : e = e0 := Option.some.inj (he.symm.trans hi)
    subst this
    rw [hf]
    exact hke.symm
  · obtain ⟨j, hj⟩ := List.getElem?_of_mem he
    rw [Array.getElem?_toList, hget] at hj
    by_cases hij : i = j
    · subst hij
      rw [if_pos rfl, hi] at hj
      simp only [Option.map_some, Option.some.injEq] at hj
      rw [hf] at hj
      subst hj
      exact ⟨x, hx, rfl, put_same _ _ _⟩
    · rw [if_neg hij] at hj
      have hm : e ∈ es.toList := List.mem_of_getElem? (i := j) (by simpa using hj)
      obtain ⟨y, hy, hky, hM⟩ := hk e hm
      have : y ≠ x := fun e1 => hap e hm j hj (Ne.symm hij) (by rw [hky, e1])
      exact ⟨y, hy, hky, by rw [put_other _ _ this]; exact hM⟩
  · by_cases e : y = x
    · subst e
      rw [put_same] at hu
      cases hu
      refine ⟨hx, f e0, ?_, by rw [hf], by rw [hf]⟩
      refine List.mem_of_getElem? (i := i) ?_
      rw [Array.getElem?_toList, hget, if_pos rfl, hi]
      rfl
    · rw [put_other _ _ e] at hu
      obtain ⟨h1, e1, h2, h3, h4⟩ := hv y u hu
      obtain ⟨j, hj⟩ := List.getElem?_of_mem h2
      rw [Array.getElem?_toList] at hj
      have hji : i ≠ j := fun hij => by
        subst hij
        have : e0 = e1 := Option.some.inj (hi.symm.trans hj)
        subst this
        exact e (E.inj _ _ (h3.symm.trans hke))
      exact ⟨h1, e1, List.mem_of_getElem? (i := j) (by rw [Array.getElem?_toList, hget, if_neg hji]; exact hj), h3, h4⟩

theorem MapAt.update (h : MapAt P kt enc ok w b M) (E : Enc P kt enc ok) {t e : TypeId} (ht : P.underlying t = some (.map kt e)) (x : κ) (hx : ok x) (v : Value) :
    ∃ w', (Instr.mapUpdate t (.map (some b)) (enc x) v).run P w = .ok () w' ∧ MapAt P kt enc ok w' b (put M x v) ∧ One w w' b := by
  obtain ⟨es, clock, hb, hs, hk, hv⟩ := h
  obtain ⟨l, hl⟩ := E.key x hx
  rcases E.law.find w hl es.toList (keys_of E hk) with ⟨h1, h2⟩ | ⟨j, e0, h1, h2, h3⟩
  · refine ⟨{ w with heap := w.heap.setIfInBounds b (.map (es.push { key := enc x, val := v, born := clock }) (clock + 1)) }, ?_, mapAt_push E hs hk hv hx h2 v (heap_set hb).1, one_set hb⟩
    simp [Instr.mapUpdate, run_underlying ht, MapKept.run_getObj_map hb, E.law.check w _ hl, h1, MapKept.run_setObj_map _ hb, Result.andThen]
  · have hj : es[j]? = some e0 := by simpa using h2
    refine ⟨{ w with heap := w.heap.setIfInBounds b (.map (es.modify j fun e => { e with key := enc x, val := v }) clock) }, ?_, mapAt_modify E hs hk hv hx hj h3 v (fun e => { e with key := enc x, val := v }) rfl (fun _ => rfl) (heap_set hb).1, one_set hb⟩
    simp [Instr.mapUpdate, run_underlying ht, MapKept.run_getObj_map hb, E.law.check w _ hl, h1, hj, h3, E.law.stays w hl, MapKept.run_setObj_map _ hb, Result.andThen]

/-- Block b is a map that has an entry at this key, of this stamp. -/
def EntryAt (w : World) (b : Nat) (key : Value) (s : Int) : Prop :=
  ∃ (es : Array MapEntry) (clock i : Nat) (e0 : MapEntry), w.heap[b]? = some (.map es clock) ∧ es[i]? = some e0 ∧ e0.key = key ∧ (e0.born : Int) = s

/-- 'm[k] op= v': the entry is found or made .. -/
theorem MapAt.entry (h : MapAt P kt enc ok w b M) (E : Enc P kt enc ok) {t e : TypeId} (ht : P.underlying t = some (.map kt e)) {z : Value} (hz : (zeroValue e).run P w = .ok z w) (x : κ) (hx : ok x) :
    ∃ w' s, (Instr.mapEntry t (.map (some b)) (enc x)).run P w = .ok (.tuple #[(M x).getD z, goInt s]) w' ∧ MapAt P kt enc ok w' b (put M x ((M x).getD z)) ∧ One w w' b ∧
      EntryAt w' b (enc x) s ∧ (∀ s', EntryAt w b (enc x) s' → s' = s) := by
  obtain ⟨es, clock, hb, hs, hk, hv⟩ := h
  obtain ⟨l, hl⟩ := E.key x hx
  rcases E.law.find w hl es.toList (keys_of E hk) with ⟨h1, h2⟩ | ⟨j, e0, h1, h2, h3⟩
  · have hM : M x = none := by
      cases hm : M x with
      | none => rfl
      | some v =>
        obtain ⟨_, e1, he1, hke, _⟩ := hv x v hm
        exact absurd hke (h2 e1 he1)
    have huniq : ∀ s', EntryAt w b (enc x) s' → s' = (clock : Int) := by
      rintro s' ⟨es2, cl2, i2, e2, hb2, hi2, hk2, _⟩
      rw [hb] at hb2
      simp only [Option.some.injEq, Obj.map.injEq] at hb2
      obtain ⟨rfl, rfl⟩ := hb2
      exact absurd hk2 (h2 e2 (List.mem_of_getElem? (i := i2) (by simpa using hi2)))
    refine ⟨{ w with heap := w.heap.setIfInBounds b (.map (es.push { key := enc x, val := z, born := clock }) (clock + 1)) }, clock, ?_, by rw [hM]; exact mapAt_push E hs hk hv hx h2 z (heap_set hb).1, one_set hb, ⟨_, _, es.size, _, (heap_set hb).1, by simp; rfl, rfl, rfl⟩, huniq⟩
    rw [hM]
    simp [Instr.mapEntry, run_underlying ht, MapKept.run_getObj_map hb, E.law.check w _ hl, h1, hz, MapKept.run_setObj_map _ hb, Result.andThen]
  · have hj : es[j]? = some e0 := by simpa using h2
    have hmem : e0 ∈ es.toList := List.mem_of_getElem? h2
    obtain ⟨y, hy, hke, hMy⟩ := hk e0 hmem
    have hxy : y = x := E.inj _ _ (hke.symm.trans h3)
    subst hxy
    have huniq : ∀ s', EntryAt w b (enc y) s' → s' = (e0.born : Int) := by
      rintro s' ⟨es2, cl2, i2, e2, hb2, hi2, hk2, hb3⟩
      rw [hb] at hb2
      simp only [Option.some.injEq, Obj.map.injEq] at hb2
      obtain ⟨rfl, rfl⟩ := hb2
      have hpw := ((stamped_iff es clock).1 hs).2.2
      have hij : i2 = j := by
        rcases Nat.lt_trichotomy i2 j with h | h | h
        · have := List.pairwise_iff_getElem.1 hpw i2 j (by simpa using (Array.getElem?_eq_some_iff.1 hi2).1) (by simpa using (Array.getElem?_eq_some_iff.1 hj).1) h
          simp only [Array.getElem_toList, (Array.getElem?_eq_some_iff.1 hi2).2, (Array.getElem?_eq_some_iff.1 hj).2] at this
          exact absurd (hk2.trans h3.symm) this
        · exact h
        · have := List.pairwise_iff_getElem.1 hpw j i2 (by simpa using (Array.getElem?_eq_some_iff.1 hj).1) (by simpa using (Array.getElem?_eq_some_iff.1 hi2).1) h
          simp only [Array.getElem_toList, (Array.getElem?_eq_some_iff.1 hi2).2, (Array.getElem?_eq_some_iff.1 hj).2] at this
          exact absurd (h3.trans hk2.symm) this
      subst hij
      have : e2 = e0 := Option.some.inj (hi2.symm.trans hj)
      subst this
      exact hb3.symm
    refine ⟨{ w with heap := w.heap.setIfInBounds b (.map (es.modify j fun e => { e with key := enc y }) clock) }, e0.born, ?_, by rw [hMy]; exact mapAt_modify E hs hk hv hx hj h3 e0.val (fun e => { e with key := enc y }) rfl (fun _ => rfl) (heap_set hb).1, one_set hb,
      ⟨_, _, j, { e0 with key := enc y }, (heap_set hb).1, ?_, rfl, rfl⟩, huniq⟩
    · rw [hMy]
      simp [Instr.mapEntry, run_underlying ht, MapKept.run_getObj_map hb, E.law.check w _ hl, h1, hj, h3, E.law.stays w hl, MapKept.run_setObj_map _ hb, Result.andThen]
    · rw [Array.getElem?_modify, if_pos rfl, hj]
      rfl

/-- .. and its element is stored. -/
theorem MapAt.entryStore (h : MapAt P kt enc ok w b M) (E : Enc P kt enc ok) {t : TypeId} (x : κ) (hx : ok x) {s : Int}
    (hst : EntryAt w b (enc x) s) (v : Value) :
    ∃ w', (Instr.entryStore t (.map (some b)) (goInt s) v).run P w = .ok () w' ∧ MapAt P kt enc ok w' b (put M x v) ∧ One w w' b := by
  obtain ⟨es, clock, hb, hs, hk, hv⟩ := h
  obtain ⟨es', clock', i, e0, hb', hi, hke, hborn⟩ := hst
  have : es' = es ∧ clock' = clock := by rw [hb] at hb'; simpa [eq_comm] using hb'
  obtain ⟨rfl, rfl⟩ := this
  subst hborn
  have hnd := ((stamped_iff es' clock').1 hs).2.1
  have hidx : es'.findIdx? (fun e => (e.born : Int) == (e0.born : Int)) = some i := by
    rw [Array.findIdx?_eq_some_iff_getElem]
    have hlt : i < es'.size := (Array.getElem?_eq_some_iff.1 hi).1
    have hii : es'[i] = e0 := (Array.getElem?_eq_some_iff.1 hi).2
    refine ⟨hlt, by simp [hii], fun j hj => ?_⟩
    have hjl : j < es'.size := by omega
    simp only [beq_iff_eq, Int.natCast_inj]
    intro heq
    have hnd' := List.pairwise_iff_getElem.1 hnd j i (by simpa using hjl) (by simpa using hlt) hj
    simp only [List.getElem_map, Array.getElem_toList, hii] at hnd'
    simp only [Bool.not_eq_true, ne_eq] at *
    exact hnd' heq
  refine ⟨{ w with heap := w.heap.setIfInBounds b (.map (es'.modify i fun e => { e with val := v }) clock') }, ?_,
    mapAt_modify E hs hk hv hx hi hke v (fun e => { e with val := v }) (by rw [← hke]) (fun _ => rfl) (heap_set hb).1, one_set hb⟩
  simp [Instr.entryStore, MapKept.run_getObj_map hb, goInt, asInt, asIntOf, hidx, MapKept.run_setObj_map _ hb, Result.andThen]
end

end Go.Mk
