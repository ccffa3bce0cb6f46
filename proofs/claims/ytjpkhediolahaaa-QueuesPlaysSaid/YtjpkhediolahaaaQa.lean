/- Contracts of the leaves under the queues: keys, clones of slices, and whether a queue is. Conditions: each lemma bears its own. -/
import Derived.Test.YtjpkhediolahaaaRows
import Derived.Test.YtjpkhediolahaaaBase
import Derived.Test.YtjpkhediolahaaaReg
import Derived.Deep.QuietTactic
import Derived.BigQuiet
import Derived.WalkSpells
import Derived.WalkLawsBesides
set_option linter.unusedVariables false
set_option linter.unusedSimpArgs false
set_option linter.unusedSectionVars false
set_option linter.unnecessarySimpa false
namespace Go.Proofs.Ytjpkhediolahaaa
open Go.RowKit Go.Mk Go.Maps

abbrev Way := Int × Int × Int
def wayV (x : Way) : Value := .agg #[.int .i64 x.1, .int .i64 x.2.1, .int .i64 x.2.2]
def i64ok (x : Int) : Prop := (Lit.int .i64 x).wf = true
def wayOk (x : Way) : Prop := i64ok x.1 ∧ i64ok x.2.1 ∧ i64ok x.2.2

theorem Try.laidOut : laidOutB Try.prog = true := by kernel_rfl
theorem size80 : Try.prog.types.size = 80 := by kernel_rfl
theorem way_keyed : Keyed Try.prog 53 := Keyed.of_law (deep_law_laid Try.laidOut (m := 80) (by decide) (by rw [size80]; decide) (by kernel_rfl) (by kernel_rfl))
theorem cells53 : Try.prog.cellsOf 53 = 3 := by kernel_rfl
theorem cells3 : Try.prog.cellsOf 3 = 1 := by kernel_rfl
theorem keyType53 : Try.prog.keyType 53 = true := by kernel_rfl

theorem way_key (x : Way) (h : wayOk x) : ∃ l, keyOf Try.prog 53 (wayV x) = some l := by
  obtain ⟨c, f, t⟩ := x
  obtain ⟨h1, h2, h3⟩ := h
  simp only [i64ok] at h1 h2 h3
  have e0 : ∀ d a, (Lit.int .i64 a).wf = true → Try.prog.keyLits (d + 1) 3 [.int .i64 a] = some [.int .i64 a] := fun d a ha => by
    simp [Program.keyLits, Try.underlying3, ha]
  refine ⟨.string (keyBytes [.int .i64 c, .int .i64 f, .int .i64 t]), ?_⟩
  have hf : (wayV (c, f, t)).formed Try.prog 53 = true := by
    simp [wayV, Value.formed, Try.underlying53, cells53]
  have e1 : ∀ d, Try.prog.keyLits (d + 2) 53 [.int .i64 c, .int .i64 f, .int .i64 t] = some [.int .i64 c, .int .i64 f, .int .i64 t] := fun d => by
    unfold Program.keyLits
    simp only [Try.underlying53]
    simp [cells53, cells3, List.range_succ, e0 _ _ h1, e0 _ _ h2, e0 _ _ h3]
  simp only [keyOf, Try.underlying53, keyType53, hf, size80, Bool.and_self, if_true]
  show ((Try.prog.keyLits (79 + 2) 53 [.int .i64 c, .int .i64 f, .int .i64 t]).map fun ls => Lit.string (keyBytes ls)) = _
  rw [e1]
  rfl

theorem way_enc : Enc Try.prog 53 wayV wayOk where
  law := way_keyed
  key := way_key
  inj := by
    rintro ⟨a, b, c⟩ ⟨a', b', c'⟩ h
    simp [wayV] at h
    obtain ⟨rfl, rfl, rfl⟩ := h
    rfl

theorem zero22 (w : World) : (zeroValue 22).run Try.prog w = .ok (.slice none 0 0) w := by kernel_rfl
theorem zero3 (w : World) : (zeroValue 3).run Try.prog w = .ok (.int .i64 0) w := by kernel_rfl
theorem info5 : (Try.prog.info? 5).map (fun i => (i.zero, i.size, i.bytes)) = some (some (.int .u8 0), 1, 1) := by kernel_rfl
theorem info29 : (Try.prog.info? 29).map (fun i => (i.zero, i.size, i.bytes)) = some (some (.slice none 0 0), 1, 24) := by kernel_rfl

end Go.Proofs.Ytjpkhediolahaaa
