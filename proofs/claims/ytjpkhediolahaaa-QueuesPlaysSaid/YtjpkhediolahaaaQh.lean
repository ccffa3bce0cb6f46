/- Contract of Turn, where it is refused. Conditions: the net is in memory as NetAt says, the arguments are ints, a queue has at most 64 batches, of at most 100000 bytes. -/
import Derived.Test.YtjpkhediolahaaaQg
set_option linter.unusedVariables false
set_option linter.unusedSimpArgs false
set_option linter.unusedSectionVars false
set_option linter.unnecessarySimpa false
namespace Go.Proofs.Ytjpkhediolahaaa
open Go.RowKit Go.Mk Go.Maps

set_option maxHeartbeats 400000 in
theorem turn_none {w b bq bt N q tn} (h : NetAt w b bq bt N q tn) (c f t k : Int) (hib : isB N (c, f, t) = false) :
   Calls Try.prog 16 #[.pointer (some ⟨b, 0, none⟩), .int .i64 c, .int .i64 f, .int .i64 t, .int .i64 k] w (CodePost w 1) := by
  have hpk := peek_none (h.ext ((Ext.refl Nope w).alloc (.cells #[.int .i64 c, .int .i64 f, .int .i64 t] 53))) c f t 0 hib
  clear h hib
  go_enter Try.func16, Try.ntmps16
  go_wp2_with (go_at_call 17; refine hpk.mono ?_; rintro e w' ⟨rfl, hext⟩)
  go_ret
  exact ⟨rfl, ((Ext.refl _ _).alloc _).trans hext⟩

set_option maxHeartbeats 400000 in
theorem turn_empty {w b bq bt N q tn} (h : NetAt w b bq bt N q tn) (c f t k : Int) (hx : wayOk (c, f, t)) (hib : isB N (c, f, t) = true) (hq : q (c, f, t) = []) :
   Calls Try.prog 16 #[.pointer (some ⟨b, 0, none⟩), .int .i64 c, .int .i64 f, .int .i64 t, .int .i64 k] w (CodePost w 27) := by
  have hpk := peek_out (h.ext ((Ext.refl Nope w).alloc (.cells #[.int .i64 c, .int .i64 f, .int .i64 t] 53))) c f t 0 hx hib (by right; simp [hq])
  clear h hib hq
  go_enter Try.func16, Try.ntmps16
  go_wp2_with (go_at_call 17; refine hpk.mono ?_; rintro e w' ⟨rfl, hext⟩)
  go_ret
  exact ⟨rfl, ((Ext.refl _ _).alloc _).trans hext⟩

theorem NetAt.lookTE {w b bq bt N q tn} (h : NetAt w b bq bt N q tn) (c f t : Int) (hx : wayOk (c, f, t)) (w' : World) (he : Ext Nope w w') :
    (Instr.lookup 50 (.map (some bt)) (.agg #[.int .i64 c, .int .i64 f, .int .i64 t]) false).run Try.prog w' = .ok (.int .i64 (tn (c, f, t))) w' := (h.ext he).lookT c f t hx

theorem own_slice {w : World} {base e n : Nat} {v : Value} {xs : List Value} (h : w.ownsRow base e 1 v n xs) : ∃ a cap, v = .slice a n cap := by
  obtain ⟨_, a, cap, e, _⟩ := SliceAt.of_own h
  exact ⟨a, cap, e⟩

set_option maxHeartbeats 1000000 in
theorem turn_arg {w b bq bt N q tn} (h : NetAt w b bq bt N q tn) (c f t k : Int) (bs : List UInt8) (rest : List (List UInt8)) (hx : wayOk (c, f, t)) (hib : isB N (c, f, t) = true) (hq : q (c, f, t) = bs :: rest) (hlen : (q (c, f, t)).length ≤ 64) (hbs : bs.length ≤ 100000)
   (hno : k < 0 ∨ (bs.length : Int) ≤ k ∨ 0 < tn (c, f, t)) :
   Calls Try.prog 16 #[.pointer (some ⟨b, 0, none⟩), .int .i64 c, .int .i64 f, .int .i64 t, .int .i64 k] w (CodePost w 1) := by
  have h0 : Ext Nope w (w.alloc (.cells #[.int .i64 c, .int .i64 f, .int .i64 t] 53)) := (Ext.refl Nope w).alloc _
  have hpk := peek_yes (h.ext h0) c f t 0 bs hx hlen hib (by rw [hq]; rfl) hbs
  have hb0 := h.lt
  have hlT := h.lookTE c f t hx
  have hc2 := fun (w' : World) (he : Ext Nope w w') => (h.ext he).c2
  generalize tn (c, f, t) = T at *
  clear h hib hq hlen
  by_cases hd0 : k < 0
  · have hd : decide (k < 0) = true := by simpa using hd0
    clear hno hlT hc2
    go_enter Try.func16, Try.ntmps16
    go_wp2_with (go_at_call 17; refine hpk.mono ?_; rintro e w' ⟨v, rfl, hown, hext⟩; obtain ⟨a, cap, rfl⟩ := own_slice hown)
    go_quiet (fail)
    go_wp2
    go_ret
    exact ⟨rfl, (h0.trans hext).drewN _⟩
  · have hd : decide (k < 0) = false := by simpa using hd0
    by_cases hd1 : (bs.length : Int) ≤ k
    · have hd2 : decide ((bs.length : Int) ≤ k) = true := by simpa using hd1
      clear hno hlT hc2
      go_enter Try.func16, Try.ntmps16
      go_wp2_with (go_at_call 17; refine hpk.mono ?_; rintro e w' ⟨v, rfl, hown, hext⟩; obtain ⟨a, cap, rfl⟩ := own_slice hown)
      go_quiet (fail)
      go_wp2
      go_ret
      exact ⟨rfl, (h0.trans hext).drewN _⟩
    · have hd2 : decide ((bs.length : Int) ≤ k) = false := by simpa using hd1
      have hT : 0 < T := by omega
      have hd3 : decide (0 < T) = true := by simpa using hT
      clear hno
      go_enter Try.func16, Try.ntmps16
      go_wp2_with (go_at_call 17; refine hpk.mono ?_; rintro e w' ⟨v, rfl, hown, hext⟩; obtain ⟨a, cap, rfl⟩ := own_slice hown)
      have hrun := fun n => hlT (w'.drewN n) ((h0.trans hext).drewN n)
      have hcq := hc2 w' (h0.trans hext)
      have hk0 : w'.cell? ⟨w.heap.size, 0, none⟩ = some (.int .i64 c) := hext.cell (by simp) (fun h => h)
      have hk1 : w'.cell? ⟨w.heap.size, 1, none⟩ = some (.int .i64 f) := hext.cell (by simp) (fun h => h)
      have hk2 : w'.cell? ⟨w.heap.size, 2, none⟩ = some (.int .i64 t) := hext.cell (by simp) (fun h => h)
      go_quiet (fail)
      go_wp2
      go_ret
      exact ⟨rfl, (h0.trans hext).drewN _⟩

end Go.Proofs.Ytjpkhediolahaaa
