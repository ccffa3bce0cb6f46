/- QueuesTurn: a batch copied behind an empty row. -/
import Derived.Test.YtjpkhediolahaaaTa
import Derived.OwnWalk
set_option linter.unusedVariables false
set_option linter.unusedSimpArgs false
set_option linter.unusedSectionVars false
set_option linter.unnecessarySimpa false
namespace Go.Proofs.Ytjpkhediolahaaa
open Go.RowKit Go.Mk Go.Maps
theorem app_none (w : World) (g : Addr) (a : Option Addr) (c : Nat) : (Builtin.append_ #[29, 29] 29 #[.slice (some g) 0 0, .slice a 0 c]).run Try.prog w = .ok (.slice (some g) 0 0) w := by
  have h := info_parts info5
  obtain ⟨i0, hi, hz0, hz1, hz2⟩ := h
  have hu : Try.prog.underlying 29 = some (.slice 5) := Try.underlying29
  cases a <;> simp [Builtin.append_, hu, hi, hz0, hz1, hz2, go_sem]

theorem wpList_append_run {P : Program} {w : World} {ops : Array Oper} {rest : List Oper} {o : Oper} {a : Act} {Q : Exit → Act → World → Prop}
    (hg : o.guard = none) (s x : Operand) (t : TypeId) (hop : o.op = Op.call { callee := Callee.builtin Builtin.append, args := #[s, x], argTypes := #[t, t] })
    {vs vx v : Value} {w1 : World} (hs : a.eval s = vs) (hx : a.eval x = vx) (hrun : (Builtin.append_ #[t, t] o.type #[vs, vx]).run P w = .ok v w1)
    (hK : wpList P ops Q rest (a.put o.dst v) w1) : wpList P ops Q (o :: rest) a w := by
  refine wpList_plain hg fun K hK' => ?_
  unfold Oper.wp
  simp [execOp, hop, resolve, invoke, builtin, hs, hx, hrun, Result.andThen]
  exact hK' _ _ hK

theorem app_short (w0 : World) (v : Value) (bs : List UInt8) (hv : BytesAt (w0.alloc (.cells #[] 5)) v bs) (hb : bs.length ≤ 100000) :
    ∃ v' w', (Builtin.append_ #[29, 29] 29 #[.slice (some ⟨w0.heap.size, 0, none⟩) 0 0, v]).run Try.prog (w0.alloc (.cells #[] 5)) = .ok v' w' ∧ w'.ownsRow w0.heap.size 5 1 v' bs.length (bs.map byteV) ∧ Ext Nope w0 w' := by
  have hown : (w0.alloc (.cells #[] 5)).ownsRow w0.heap.size 5 1 (.slice (some ⟨w0.heap.size, 0, none⟩) 0 0) 0 [] := World.ownsRow_made w0 #[] 0 (Nat.le_refl _) (Nat.zero_le _) rfl
  have he : Ext Nope w0 (w0.alloc (.cells #[] 5)) := (Ext.refl _ _).alloc _
  obtain ⟨hl, a, cap, rfl, h1, h2, h3, h4⟩ := hv
  by_cases h0 : bs.length = 0
  · rw [h0]
    rw [List.eq_nil_of_length_eq_zero h0]
    exact ⟨_, _, app_none _ _ _ _, hown, he⟩
  · cases a with
    | none => have := h3 rfl; omega
    | some ad =>
      obtain ⟨i0, hi, hz0, hz1, hz2⟩ := info_parts info5
      obtain ⟨v', w', g1, g2, g3⟩ := run_append_full (P := Try.prog) (w0.alloc (.cells #[] 5)) 29 29 5 i0 (.int .u8 0) 1 1 Try.underlying29 hi hz0 hz1 hz2 rfl (some ⟨w0.heap.size, 0, none⟩) 0 [] (SliceAt.of_own hown) ad bs.length cap (bs.map byteV) (by simp) (h4 ad rfl) (by omega) (by omega) (by omega)
      refine ⟨v', w', g1, ?_, he.trans g3⟩
      have := ownsRow_base g2 he.size
      simpa using this
end Go.Proofs.Ytjpkhediolahaaa
