/- Contracts of the queues' methods that only look: whether a queue is, how long it is, whether there is room. Conditions: the net is in memory as NetAt says, the arguments are ints. -/
import Derived.Test.YtjpkhediolahaaaQb
import Derived.Handy
set_option linter.unusedVariables false
set_option linter.unusedSimpArgs false
set_option linter.unusedSectionVars false
set_option linter.unnecessarySimpa false
namespace Go.Proofs.Ytjpkhediolahaaa
open Go.RowKit Go.Mk Go.Maps

def isB (N : Int) (x : Way) : Bool := decide (0 ≤ x.1 ∧ x.1 < 2 ∧ 0 ≤ x.2.1 ∧ x.2.1 < N ∧ 0 ≤ x.2.2 ∧ x.2.2 < N)

/-- What the map of batches holds. -/
def QMap (w : World) (bq : Nat) (q : Way → List (List UInt8)) : Prop :=
  ∃ M, MapAt Try.prog 53 wayV wayOk w bq M ∧ ∀ x, wayOk x → RowsT 29 w ((M x).getD (.slice none 0 0)) (q x)
/-- What the map of turns holds. -/
def TMap (w : World) (bt : Nat) (tn : Way → Int) : Prop :=
  ∃ M, MapAt Try.prog 53 wayV wayOk w bt M ∧ ∀ x, wayOk x → (M x).getD (.int .i64 0) = .int .i64 (tn x)

structure NetAt (w : World) (b bq bt : Nat) (N : Int) (q : Way → List (List UInt8)) (tn : Way → Int) : Prop where
  hdr : w.heap[b]? = some (.cells #[.int .i64 N, .map (some bq), .map (some bt)] 52 (0, 0))
  ne : bq ≠ bt
  qm : QMap w bq q
  tm : TMap w bt tn
  few : 0 ≤ N ∧ N ≤ 16

theorem NetAt.c0 {w b bq bt N q tn} (h : NetAt w b bq bt N q tn) : w.cell? ⟨b, 0, none⟩ = some (.int .i64 N) := by simp [World.cell?, h.hdr]
theorem NetAt.c1 {w b bq bt N q tn} (h : NetAt w b bq bt N q tn) : w.cell? ⟨b, 1, none⟩ = some (.map (some bq)) := by simp [World.cell?, h.hdr]
theorem NetAt.c2 {w b bq bt N q tn} (h : NetAt w b bq bt N q tn) : w.cell? ⟨b, 2, none⟩ = some (.map (some bt)) := by simp [World.cell?, h.hdr]
theorem NetAt.lt {w b bq bt N q tn} (h : NetAt w b bq bt N q tn) : b < w.heap.size := (Array.getElem?_eq_some_iff.1 h.hdr).1

theorem is_yes {N c f t : Int} (h : 0 ≤ c ∧ c < 2 ∧ 0 ≤ f ∧ f < N ∧ 0 ≤ t ∧ t < N) : Ending.returned (.bool true) = .returned (.bool (isB N (c, f, t))) := by simp [isB, h]
theorem is_no {N c f t : Int} (h : ¬ (0 ≤ c ∧ c < 2 ∧ 0 ≤ f ∧ f < N ∧ 0 ≤ t ∧ t < N)) : Ending.returned (.bool false) = .returned (.bool (isB N (c, f, t))) := by
  unfold isB
  rw [show decide (0 ≤ c ∧ c < 2 ∧ 0 ≤ f ∧ f < N ∧ 0 ≤ t ∧ t < N) = false from decide_eq_false h]

set_option maxHeartbeats 1000000 in
theorem is_any (b : Nat) (N c f t : Int) (w : World) (hb : b < w.heap.size) (hq : w.cell? ⟨b, 0, none⟩ = some (.int .i64 N)) :
   Calls Try.prog 25 #[.pointer (some ⟨b, 0, none⟩), .agg #[.int .i64 c, .int .i64 f, .int .i64 t]] w fun e w' => e = .returned (.bool (isB N (c, f, t))) ∧ Ext Nope w w' := by
  have i0 : ∀ w, (Instr.index 53 (.agg #[.int .i64 c, .int .i64 f, .int .i64 t]) (.int .i64 0)).run Try.prog w = .ok (.int .i64 c) w := fun _ => by kernel_rfl
  have i1 : ∀ w, (Instr.index 53 (.agg #[.int .i64 c, .int .i64 f, .int .i64 t]) (.int .i64 1)).run Try.prog w = .ok (.int .i64 f) w := fun _ => by kernel_rfl
  have i2 : ∀ w, (Instr.index 53 (.agg #[.int .i64 c, .int .i64 f, .int .i64 t]) (.int .i64 2)).run Try.prog w = .ok (.int .i64 t) w := fun _ => by kernel_rfl
  go_enter Try.func25, Try.ntmps25
  go_wp2
  go_region
  go_wp2
  go_rounds 4
  all_goals (go_ret; refine ⟨?_, (((Ext.refl _ _).alloc _).alloc _).drew⟩)
  all_goals (first | exact is_yes (by omega) | exact is_no (by omega))

end Go.Proofs.Ytjpkhediolahaaa
