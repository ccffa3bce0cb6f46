/-
  OWN WORK. Arguments opened: a slice of slices of bytes; an array of three ints.
-/
import Derived.Test.YtjpkhediolahaaaLaw
import Derived.Deep.Matrix
import Derived.WideKeyArr2
set_option linter.unusedVariables false
set_option linter.unusedSimpArgs false
set_option linter.unusedSectionVars false
set_option linter.unnecessarySimpa false
namespace Go.Mk
open Go.ChangeShapes Go.WideShapes Go.ChangeAt Go.RowKit Go.Deep

variable {P : Program} {H : Type} {enc : TypeId × Value → H}

theorem byteV_ofInt {n : Int} (h : (Lit.int .u8 n).wf = true) : byteV (UInt8.ofNat n.toNat) = .int .u8 n := by
  have h' : 0 ≤ n ∧ n ≤ 255 := by simpa [Lit.wf, IntKind.min, IntKind.max, IntKind.signed, IntKind.bits] using h
  unfold byteV
  congr 1
  rw [UInt8.toNat_ofNat']
  omega

theorem open_rows {t e q : TypeId} (ht : P.underlying t = some (.slice e)) (he : P.underlying e = some (.slice q)) (hq : P.underlying q = some (.int .u8)) (ce : P.cellsOf e = 1) (cq : P.cellsOf q = 1)
    {w : World} {base : Nat} {held : Bool} {r : Reach} {b0 : Nat} {v : Value} {d : DataW H} {ps : List MemPlace} (hv : Value.okWide P w r b0 t v) (h : DataW.Trod enc P w base (fun _ => true) held t v d ps) :
    ∃ rows : List (List UInt8), RowsAt w v rows := by
  obtain ⟨a0, len, cap, rfl⟩ := okWide_slice ht hv
  obtain ⟨fuel, hf⟩ := h
  rcases open_int_rows ht he hq ce cq hf with ⟨hcs0, hx⟩ | ⟨a, len', cap', A, L, C, Z, hcs0, _, hl, hm, hx, hrows⟩
  · simp [Value.cells] at hcs0
    obtain ⟨rfl, rfl, rfl⟩ := hcs0
    exact ⟨[], [], SliceAt.nil w 1, fun i x r hx => by simp at hx⟩
  · simp [Value.cells] at hcs0
    obtain ⟨rfl, rfl, rfl⟩ := hcs0
    refine ⟨(List.range len).map fun r => ((Z r).take (L r)).map fun n => UInt8.ofNat n.toNat, (List.range len).map fun r => .slice (A r) (L r) (C r), ⟨by simp, some a, cap, by simp, by simpa using hl, hm, fun h => (by cases h), ?_⟩, ?_⟩
    · intro ad had j u hu
      cases had
      simp only [List.getElem?_map, Option.map_eq_some_iff, List.getElem?_range] at hu
      obtain ⟨r, hr, rfl⟩ := hu
      have hlt : j < len := by
        have := (List.getElem?_eq_some_iff.1 hr).1
        simpa using this
      have e1 : r = j := by
        have := (List.getElem?_eq_some_iff.1 hr).2
        simpa using this.symm
      subst e1
      exact (hrows r (by omega)).1
    · intro i x r hx hr
      simp only [List.getElem?_map, Option.map_eq_some_iff] at hx hr
      obtain ⟨k, hk, rfl⟩ := hx
      obtain ⟨k', hk', rfl⟩ := hr
      have e0 : k = k' := by rw [hk] at hk'; exact Option.some.inj hk'
      subst e0
      have hlt : k < len := by
        have := List.mem_of_getElem? hk
        simpa using this
      obtain ⟨g1, g2, g3, g4, g5, g6, g7⟩ := hrows k (by omega)
      have hlen : (((Z k).take (L k)).map fun n => UInt8.ofNat n.toNat).length = L k := by simp; omega
      refine ⟨by simp, A k, C k, by rw [hlen], by rw [hlen]; exact g2, g3, g6, ?_⟩
      intro ad had j u hu
      simp only [List.getElem?_map, Option.map_eq_some_iff, List.map_map, Function.comp_def] at hu
      obtain ⟨z, hz, rfl⟩ := hu
      rw [List.getElem?_take] at hz
      split at hz
      · next hjl =>
        have hc := (g7 ad had).2 j (by omega)
        rw [hc]
        have e1 : (Z k).getD j 0 = z := by simp [List.getD, hz]
        rw [e1, byteV_ofInt (g5 z (List.mem_of_getElem? hz))]
      · simp at hz

theorem open_ints3 {t e : TypeId} {q : IntKind} (ht : P.underlying t = some (.array 3 e)) (he : P.underlying e = some (.int q)) (ct : P.cellsOf t = 3) (ce : P.cellsOf e = 1)
    {w : World} {base : Nat} {sp : Nat → Bool} {held : Bool} {r : Reach} {b0 : Nat} {v : Value} {d : DataW H} {ps : List MemPlace} (hv : Value.okWide P w r b0 t v) (h : DataW.Trod enc P w base sp held t v d ps) :
    ∃ a b c : Int, v = .agg #[.int q a, .int q b, .int q c] ∧ (Lit.int q a).wf = true ∧ (Lit.int q b).wf = true ∧ (Lit.int q c).wf = true := by
  obtain ⟨xs, rfl, hn⟩ : ∃ xs : Array Value, v = .agg xs ∧ xs.size = 3 := by
    simp only [Value.okWide, ht] at hv
    obtain ⟨cs, h1, h2, _⟩ := hv
    exact ⟨cs, h1, by rw [h2, ct]⟩
  obtain ⟨fuel, hf⟩ := h
  cases fuel with
  | zero => simp [DataW.trod] at hf
  | succ m =>
    rw [DataW.trod_step] at hf
    unfold DataW.trodStep at hf
    simp only [ht, Value.cells] at hf
    rw [if_pos (by rw [ct]; simpa using hn)] at hf
    simp only [Option.map_eq_some_iff] at hf
    obtain ⟨ys, hy, e1⟩ := hf
    obtain ⟨l⟩ := xs
    match l, hn with
    | [x0, x1, x2], _ =>
      rw [show List.range 3 = [0, 1, 2] from rfl] at hy
      simp only [List.mapM_cons, List.mapM_nil, bind, Option.bind_eq_some_iff, pure, ce] at hy
      obtain ⟨y0, h0, ys0, ⟨y1, h1, ys1, ⟨y2, h2, _⟩, _⟩, _⟩ := hy
      obtain ⟨a, ea, -, wa⟩ := DataW.trod_int he h0
      obtain ⟨b, eb, -, wb⟩ := DataW.trod_int he h1
      obtain ⟨c, ec, -, wc⟩ := DataW.trod_int he h2
      simp at ea eb ec
      subst ea eb ec
      exact ⟨a, b, c, rfl, wa, wb, wc⟩
end Go.Mk
