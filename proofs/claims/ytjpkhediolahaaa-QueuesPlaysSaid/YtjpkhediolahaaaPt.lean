/- QueuesPlays: its second argument opened: calls, five ints and a batch each. Conditions: the argument is read. -/
import Derived.Test.YtjpkhediolahaaaPs
import Derived.Deep.Fields
set_option linter.unusedVariables false
set_option linter.unusedSimpArgs false
set_option linter.unusedSectionVars false
set_option linter.unnecessarySimpa false
namespace Go.Proofs.Ytjpkhediolahaaa
open Go.RowKit Go.Mk Go.Maps Go.ChangeShapes Go.WideShapes Go.ChangeAt Go.Deep

variable {H : Type} {enc : TypeId × Value → H}

/-- A batch opened. -/
theorem open_batch {w : World} {base n : Nat} {held : Bool} {v : Value} {y : DataW H × List MemPlace} (h : DataW.trod enc Try.prog w base (fun _ => true) held n 29 [v] = some y) :
    ∃ va vc, ∃ bs : List UInt8, v = .slice va bs.length vc ∧ BytesAt w (.slice va bs.length vc) bs := by
  rcases open_ints Try.underlying29 Try.underlying5 (by kernel_rfl) h with ⟨hc, _⟩ | ⟨a, len, cap, zs, hc, _, hl, hm, hz, _, hcell, hwf⟩
  · simp only [List.cons.injEq, and_true] at hc
    subst hc
    exact ⟨none, 0, [], rfl, SliceAt.nil _ _⟩
  · simp only [List.cons.injEq, and_true] at hc
    subst hc
    simp only [if_true] at hz
    have e1 : ((zs.take len).map fun n => UInt8.ofNat n.toNat).length = len := by simp; omega
    refine ⟨some a, cap, (zs.take len).map fun n => UInt8.ofNat n.toNat, by rw [e1], ⟨by simp, some a, cap, by rw [e1], by rw [e1]; exact hl, hm, fun h => (by cases h), ?_⟩⟩
    intro ad had j u hu
    cases had
    simp only [List.getElem?_map, Option.map_eq_some_iff, List.map_map, Function.comp_def] at hu
    obtain ⟨z, hz', rfl⟩ := hu
    rw [List.getElem?_take] at hz'
    split at hz'
    · next hjl =>
      rw [hcell j (by omega)]
      have e2 : zs.getD j 0 = z := by simp [List.getD, hz']
      rw [e2, byteV_ofInt (hwf z (List.mem_of_getElem? hz'))]
    · simp at hz'

theorem open_op {w : World} {base n : Nat} {held : Bool} {a : Addr} {cs : List Value} {y : DataW H × List MemPlace} (hc : w.cells? base a 6 = some cs) (h : DataW.trod enc Try.prog w base (fun _ => true) held n 46 cs = some y) :
    ∃ o : OpR, o.ok ∧ OpAtA w a o := by
  obtain ⟨ys, n', hn', hy, hlen, hyl, hf⟩ := DataW.trod_struct Try.underlying46 h
  obtain ⟨_, hcl, hat⟩ := World.cells?_some hc
  have c6 : Try.prog.cellsOf 3 = 1 := by kernel_rfl
  have c29 : Try.prog.cellsOf 29 = 1 := by kernel_rfl
  match cs, hcl with
  | [x0, x1, x2, x3, x4, x5], _ =>
    have g0 : DataW.trod enc Try.prog w base (fun _ => true) held n' 3 ((List.drop 0 [x0, x1, x2, x3, x4, x5]).take (Try.prog.cellsOf 3)) = ys[0]? := hf 0 _ rfl
    rw [c6] at g0
    replace g0 : DataW.trod enc Try.prog w base (fun _ => true) held n' 3 [x0] = ys[0]? := g0
    have g1 : DataW.trod enc Try.prog w base (fun _ => true) held n' 3 ((List.drop 1 [x0, x1, x2, x3, x4, x5]).take (Try.prog.cellsOf 3)) = ys[1]? := hf 1 _ rfl
    rw [c6] at g1
    replace g1 : DataW.trod enc Try.prog w base (fun _ => true) held n' 3 [x1] = ys[1]? := g1
    have g2 : DataW.trod enc Try.prog w base (fun _ => true) held n' 3 ((List.drop 2 [x0, x1, x2, x3, x4, x5]).take (Try.prog.cellsOf 3)) = ys[2]? := hf 2 _ rfl
    rw [c6] at g2
    replace g2 : DataW.trod enc Try.prog w base (fun _ => true) held n' 3 [x2] = ys[2]? := g2
    have g3 : DataW.trod enc Try.prog w base (fun _ => true) held n' 3 ((List.drop 3 [x0, x1, x2, x3, x4, x5]).take (Try.prog.cellsOf 3)) = ys[3]? := hf 3 _ rfl
    rw [c6] at g3
    replace g3 : DataW.trod enc Try.prog w base (fun _ => true) held n' 3 [x3] = ys[3]? := g3
    have g4 : DataW.trod enc Try.prog w base (fun _ => true) held n' 3 ((List.drop 4 [x0, x1, x2, x3, x4, x5]).take (Try.prog.cellsOf 3)) = ys[4]? := hf 4 _ rfl
    rw [c6] at g4
    replace g4 : DataW.trod enc Try.prog w base (fun _ => true) held n' 3 [x4] = ys[4]? := g4
    have g5 : DataW.trod enc Try.prog w base (fun _ => true) held n' 29 ((List.drop 5 [x0, x1, x2, x3, x4, x5]).take (Try.prog.cellsOf 29)) = ys[5]? := hf 5 _ rfl
    rw [c29] at g5
    replace g5 : DataW.trod enc Try.prog w base (fun _ => true) held n' 29 [x5] = ys[5]? := g5
    have some_of : ∀ (j : Nat), j < 6 → ∃ y', ys[j]? = some y' := fun j hj => ⟨_, List.getElem?_eq_getElem (by rw [hyl]; exact hj)⟩
    obtain ⟨y0, e0⟩ := some_of 0 (by omega)
    obtain ⟨y1, e1⟩ := some_of 1 (by omega)
    obtain ⟨y2, e2⟩ := some_of 2 (by omega)
    obtain ⟨y3, e3⟩ := some_of 3 (by omega)
    obtain ⟨y4, e4⟩ := some_of 4 (by omega)
    obtain ⟨y5, e5⟩ := some_of 5 (by omega)
    obtain ⟨kd, q0, -, w0⟩ := DataW.trod_int Try.underlying3 (g0.trans e0)
    obtain ⟨c, q1, -, w1⟩ := DataW.trod_int Try.underlying3 (g1.trans e1)
    obtain ⟨f, q2, -, w2⟩ := DataW.trod_int Try.underlying3 (g2.trans e2)
    obtain ⟨u, q3, -, w3⟩ := DataW.trod_int Try.underlying3 (g3.trans e3)
    obtain ⟨k, q4, -, w4⟩ := DataW.trod_int Try.underlying3 (g4.trans e4)
    obtain ⟨va, vc, bs, q5, hb⟩ := open_batch (g5.trans e5)
    simp only [List.cons.injEq, and_true] at q0 q1 q2 q3 q4
    subst q0 q1 q2 q3 q4 q5
    refine ⟨⟨kd, c, f, u, k, bs⟩, ⟨w0, ⟨w1, w2, w3⟩, w4⟩, ?_, hat 1 (by omega), hat 2 (by omega), hat 3 (by omega), hat 4 (by omega), va, vc, hat 5 (by omega), hb⟩
    have := hat 0 (by omega)
    simpa [Addr.add] using this

theorem open_ops {w : World} {base b0 : Nat} {held : Bool} {rr : Reach} {v : Value} {d : DataW H} {ps : List MemPlace} (hv : Value.okWide Try.prog w rr b0 41 v) (h : DataW.Trod enc Try.prog w base (fun _ => true) held 41 v d ps) :
    ∃ (a : Option Addr) (cap : Nat) (L : List OpR), v = .slice a L.length cap ∧ OpsAt w a cap L := by
  obtain ⟨a0, len0, cap0, rfl⟩ := okWide_slice Try.underlying41 hv
  obtain ⟨fuel, hf⟩ := h
  rcases open_slice Try.underlying41 hf with ⟨hcs, _⟩ | ⟨a, len, cap, m, n, D, Pl, hcs, hb, hl, hm, hmm, hx, hi⟩
  · simp [Value.cells] at hcs
    obtain ⟨rfl, rfl, rfl⟩ := hcs
    exact ⟨none, 0, [], rfl, Nat.le_refl _, Nat.zero_le _, fun _ => rfl, fun ad h => by cases h⟩
  · simp [Value.cells] at hcs
    obtain ⟨rfl, rfl, rfl⟩ := hcs
    have hC : Try.prog.cellsOf 46 = 6 := by kernel_rfl
    simp only [if_true] at hmm
    have each : ∀ i, i < len0 → ∃ o : OpR, o.ok ∧ OpAtA w (a.add (i * 6)) o := by
      intro i hi'
      obtain ⟨cs', hc, ht⟩ := hi i (by omega)
      rw [hC] at hc
      exact open_op hc ht
    haveI : Inhabited OpR := ⟨⟨0, 0, 0, 0, 0, []⟩⟩
    obtain ⟨y, hy⟩ := choose_lt each
    refine ⟨some a, cap0, (List.range len0).map y, by simp, by simpa using hl, hm, fun h => (by cases h), fun ad had i o ho => ?_⟩
    cases had
    simp only [List.getElem?_map, Option.map_eq_some_iff] at ho
    obtain ⟨i', hi', rfl⟩ := ho
    have hlt : i < len0 := by
      have := (List.getElem?_eq_some_iff.1 hi').1
      simpa using this
    have e1 : i' = i := by
      have := (List.getElem?_eq_some_iff.1 hi').2
      simpa using this.symm
    subst e1
    exact hy i' hlt
end Go.Proofs.Ytjpkhediolahaaa
