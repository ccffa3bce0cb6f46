/- Contracts of slices.Clone and slices.Clip at the queues' types. Conditions: the slice is read in memory, and takes at most 2^47 bytes. -/
import Derived.Test.YtjpkhediolahaaaQa
set_option linter.unusedVariables false
set_option linter.unusedSimpArgs false
set_option linter.unusedSectionVars false
set_option linter.unnecessarySimpa false
namespace Go.Proofs.Ytjpkhediolahaaa
open Go.RowKit Go.Mk Go.Maps

theorem eqnil29 (w : World) (a : Option Addr) (n c n' c' : Nat) : (binOp .eql 29 (.slice a n c) (.slice none n' c')).run Try.prog w = .ok (.bool a.isNone) w := Lib.run_eql_slice_nil w 29 5 a n c n' c' Try.underlying29
theorem eqnil22 (w : World) (a : Option Addr) (n c n' c' : Nat) : (binOp .eql 22 (.slice a n c) (.slice none n' c')).run Try.prog w = .ok (.bool a.isNone) w := Lib.run_eql_slice_nil w 22 29 a n c n' c' Try.underlying22

def OwnedBy (w : World) (e : TypeId) (n : Nat) (xs : List Value) (en : Ending) (w' : World) : Prop :=
  ∃ v', en = .returned v' ∧ w'.ownsRow w.heap.size e 1 v' n xs ∧ Ext Nope w w'

set_option maxHeartbeats 400000 in
theorem clone27 (v : Value) (n : Nat) (xs : List Value) (w : World) (h : SliceAt w 1 v n xs) (h1 : ∀ u ∈ xs, u.oneCell' = true) (hn : n * 1 ≤ 140737488355328) :
    Calls Try.prog 27 #[v] w (OwnedBy w 5 n xs) := by
  obtain ⟨hl, a, cap, rfl, hnc, hcm, hnone, hc⟩ := h
  obtain ⟨i0, hi, hz0, hz1, hz2⟩ := info_parts info5
  have hm : n ≤ maxLen := Nat.le_trans hnc hcm
  cases a with
  | none =>
    obtain rfl : cap = 0 := hnone rfl
    obtain rfl : n = 0 := by omega
    obtain rfl : xs = [] := List.eq_nil_of_length_eq_zero (by simpa using hl)
    clear hl hc hnone hnc hcm h1
    have hq := eqnil29
    go_enter Try.func27, Try.ntmps27
    go_wp2
    go_ret
    exact ⟨_, rfl, World.ownsRow_nil _ _ _ _, Ext.refl _ _⟩
  | some ad =>
    have hc' := hc ad rfl
    have Hl := Lib.hid hl
    clear hc hnone hl
    have hown : (w.alloc (.cells #[] 5)).ownsRow w.heap.size 5 1 (.slice (some ⟨w.heap.size, 0, none⟩) 0 0) 0 [] := World.ownsRow_made w #[] 0 (Nat.le_refl _) (Nat.zero_le _) rfl
    have hq := eqnil29
    go_enter Try.func27, Try.ntmps27
    go_wp2_with (at_builtin; refine wpList_append_own _ rfl (.tmp 5) (.tmp 6) 29 rfl w.heap.size 5 i0 (.int .u8 0) 1 1 Try.underlying29 hi hz0 hz1 hz2 rfl (by decide) _ _ _ rfl hown ad n cap xs rfl Hl.out ?c1 h1 ?c2 ?c3 ?c4 ?_)
    case c1 =>
      intro j u hu
      exact ((Ext.refl Nope w).alloc _).cell (hc' j u hu) (fun h => h)
    case c2 => omega
    case c3 => omega
    case c4 => simp
    intro v' w' ho hg _
    go_wp2
    go_ret
    refine ⟨v', rfl, by simpa using ho, ((Ext.refl _ _).alloc _).grown hg fun k hk => ?_⟩
    simp only [Value.ownBlock, Option.some.injEq] at hk
    right
    omega

set_option maxHeartbeats 400000 in
theorem clone28 (v : Value) (n : Nat) (xs : List Value) (w : World) (h : SliceAt w 1 v n xs) (h1 : ∀ u ∈ xs, u.oneCell' = true) (hn : n * 24 ≤ 140737488355328) :
    Calls Try.prog 28 #[v] w (OwnedBy w 29 n xs) := by
  obtain ⟨hl, a, cap, rfl, hnc, hcm, hnone, hc⟩ := h
  obtain ⟨i0, hi, hz0, hz1, hz2⟩ := info_parts info29
  have hm : n ≤ maxLen := Nat.le_trans hnc hcm
  cases a with
  | none =>
    obtain rfl : cap = 0 := hnone rfl
    obtain rfl : n = 0 := by omega
    obtain rfl : xs = [] := List.eq_nil_of_length_eq_zero (by simpa using hl)
    clear hl hc hnone hnc hcm h1
    have hq := eqnil22
    go_enter Try.func28, Try.ntmps28
    go_wp2
    go_ret
    exact ⟨_, rfl, World.ownsRow_nil _ _ _ _, Ext.refl _ _⟩
  | some ad =>
    have hc' := hc ad rfl
    have Hl := Lib.hid hl
    clear hc hnone hl
    have hown : (w.alloc (.cells #[] 29)).ownsRow w.heap.size 29 1 (.slice (some ⟨w.heap.size, 0, none⟩) 0 0) 0 [] := World.ownsRow_made w #[] 0 (Nat.le_refl _) (Nat.zero_le _) rfl
    have hq := eqnil22
    go_enter Try.func28, Try.ntmps28
    go_wp2_with (at_builtin; refine wpList_append_own _ rfl (.tmp 5) (.tmp 6) 22 rfl w.heap.size 29 i0 (.slice none 0 0) 1 24 Try.underlying22 hi hz0 hz1 hz2 rfl (by decide) _ _ _ rfl hown ad n cap xs rfl Hl.out ?c1 h1 ?c2 ?c3 ?c4 ?_)
    case c1 =>
      intro j u hu
      exact ((Ext.refl Nope w).alloc _).cell (hc' j u hu) (fun h => h)
    case c2 => omega
    case c3 => omega
    case c4 => simp
    intro v' w' ho hg _
    go_wp2
    go_ret
    refine ⟨v', rfl, by simpa using ho, ((Ext.refl _ _).alloc _).grown hg fun k hk => ?_⟩
    simp only [Value.ownBlock, Option.some.injEq] at hk
    right
    omega

set_option maxHeartbeats 400000 in
theorem clip26 (a : Option Addr) (n cap : Nat) (w : World) (hn : n ≤ cap) (hm : cap ≤ maxLen) :
    Calls Try.prog 26 #[.slice a n cap] w fun e w' => e = .returned (.slice a n n) ∧ w = w' := by
  unfold maxLen at hm
  go_enter Try.func26, Try.ntmps26
  go_wp2
  go_ret
  refine ⟨?_, rfl⟩
  cases a <;> simp [Addr.add]

end Go.Proofs.Ytjpkhediolahaaa
