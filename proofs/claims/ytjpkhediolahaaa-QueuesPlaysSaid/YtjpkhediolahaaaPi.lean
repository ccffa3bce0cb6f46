/- Contract of the reference's New. Conditions: none. -/
import Derived.Test.YtjpkhediolahaaaPh
import Derived.Deep.OwnRows
import Derived.Deep.DeepCutAuto
set_option linter.unusedVariables false
set_option linter.unusedSimpArgs false
set_option linter.unusedSectionVars false
set_option linter.unnecessarySimpa false
namespace Go.Proofs.Ytjpkhediolahaaa
open Go.RowKit Go.Mk Go.Maps

theorem info22 : (Try.prog.info? 22).map (fun i => (i.zero, i.size, i.bytes)) = some (some (.slice none 0 0), 1, 24) := by kernel_rfl
theorem info4 : (Try.prog.info? 4).map (fun i => (i.zero, i.size, i.bytes)) = some (some (.bool false), 1, 1) := by kernel_rfl

/-- A row of so many alike, in a block from B on. -/
def Made (B : Nat) (e : TypeId) (z : Value) (K : Nat) (v : Value) (w : World) : Prop := ∃ b, B ≤ b ∧ v = .slice (some ⟨b, 0, none⟩) K K ∧ w.heap[b]? = some (.cells (madeCells #[z] K) e (0, 0))
def MadeNet (B : Nat) (N : Int) (K : Nat) (v : Value) (w : World) : Prop := ∃ vq vt, v = .agg #[.int .i64 N, vq, vt] ∧ Made B 22 (.slice none 0 0) K vq w ∧ Made B 4 (.bool false) K vt w
def MadeRef (B : Nat) (N : Int) (v : Value) (w : World) : Prop := ∃ r rq rt, v = .pointer (some ⟨r, 0, none⟩) ∧ RefAt w r rq rt N (fun _ => []) (fun _ => 0) ∧ B ≤ r ∧ B ≤ rq ∧ B ≤ rt

theorem made_at (z : Value) (n i : Nat) (h : i < n) : (madeCells #[z] n)[i]? = some z := by simp [madeCells, h, Nat.mod_one]
theorem made_all (z : Value) (n j : Nat) {v : Value} (h : (madeCells #[z] n)[j]? = some v) : v = z := by
  have hj : j < n := by
    have := (Array.getElem?_eq_some_iff.1 h).1
    simpa [size_madeCells] using this
  rw [made_at z n j hj] at h
  exact (Option.some.inj h).symm

theorem ref_made {w : World} {B : Nat} {N : Int} (hN : 0 ≤ N ∧ N ≤ 16) {r : Nat} {vq vt : Value} (hr : w.heap[r]? = some (.cells #[.int .i64 N, vq, vt] 59 (0, 0)))
    (hq : Made B 22 (.slice none 0 0) (places N) vq w) (ht : Made B 4 (.bool false) (places N) vt w) : ∃ rq rt, RefAt w r rq rt N (fun _ => []) (fun _ => 0) ∧ B ≤ rq ∧ B ≤ rt := by
  obtain ⟨bq, h1, rfl, h2⟩ := hq
  obtain ⟨bt, h3, rfl, h4⟩ := ht
  refine ⟨bq, bt, ⟨hr, ?_, hN, ⟨_, h2, by simp [size_madeCells], ?_, ?_⟩, ⟨_, h4, by simp [size_madeCells], ?_, ?_⟩⟩, h1, h3⟩
  · intro e
    rw [e, h4] at h2
    simp at h2
  · intro j kd z hh
    have := made_all _ _ _ hh
    cases this
  · intro x hx
    exact ⟨_, made_at _ _ _ (place_lt hN hx).1, ⟨[], SliceAt.nil _ _, fun i x r h => by simp at h⟩, TypedAt.none _ _ _ _⟩
  · intro j kd z hh
    have := made_all _ _ _ hh
    cases this
  · intro x hx
    exact made_at _ _ _ (place_lt hN hx).1

def RNew (w : World) (N : Int) (e : Ending) (w' : World) : Prop := ∃ v, e = .returned v ∧ MadeRef w.heap.size N v w' ∧ Ext Nope w w'

set_option maxHeartbeats 1000000 in
theorem rnew_any (n : Int) (w : World) : Calls Try.prog 18 #[.int .i64 n] w (RNew w (min (max n 0) 16)) := by
  go_enter Try.func18, Try.ntmps18
  go_upto_region 1 with fail
  go_cut [3] (fun s3 wx => wx = w ∧ ∃ M : Nat, s3 = .int .i64 (M : Int) ∧ (M : Int) = min (max n 0) 16)
  case first =>
    go_wp2
    all_goals
      go_meet
      first
        | exact ⟨rfl, 0, rfl, by omega⟩
        | exact ⟨rfl, n.toNat, by congr 1; omega, by omega⟩
        | exact ⟨rfl, 16, rfl, by omega⟩
  case rest =>
  obtain ⟨rfl, M, rfl, hM⟩ := hcut
  have hM16 : M ≤ 16 := by omega
  have b1 : (2 : Int) * (M : Int) ≤ 32 := by omega
  have hMM : M * M ≤ 16 * M := Nat.mul_le_mul_right M hM16
  have hKn : places (M : Int) = 2 * M * M := by
    unfold places
    rw [show (2 * (M : Int) * (M : Int)) = ((2 * M * M : Nat) : Int) by simp [Int.natCast_mul], Int.toNat_natCast]
  have hK : (2 : Int) * (M : Int) * (M : Int) = ((places (M : Int) : Nat) : Int) := by rw [hKn]; simp [Int.natCast_mul]
  have hKb : places (M : Int) ≤ 512 := by rw [hKn, Nat.mul_assoc]; omega
  have b2 : (2 : Int) * (M : Int) * (M : Int) ≤ 512 := by rw [hK]; omega
  have b3 : 0 ≤ (2 : Int) * (M : Int) * (M : Int) := by rw [hK]; omega
  have m22 : ∀ wx, (Instr.makeSlice 56 (.int .i64 (2 * (M : Int) * (M : Int))) (.int .i64 (2 * (M : Int) * (M : Int)))).run Try.prog wx = .ok (.slice (some ⟨wx.heap.size, 0, none⟩) (places (M : Int)) (places (M : Int))) (wx.alloc (.cells (madeCells #[.slice none 0 0] (places (M : Int))) 22)) := fun wx => by
    rw [hK]
    exact Go.run_make_row' 56 22 _ 24 Try.underlying56 info22 rfl .i64 .i64 _ (by omega) (by omega) wx
  have m4 : ∀ wx, (Instr.makeSlice 57 (.int .i64 (2 * (M : Int) * (M : Int))) (.int .i64 (2 * (M : Int) * (M : Int)))).run Try.prog wx = .ok (.slice (some ⟨wx.heap.size, 0, none⟩) (places (M : Int)) (places (M : Int))) (wx.alloc (.cells (madeCells #[.bool false] (places (M : Int))) 4)) := fun wx => by
    rw [hK]
    exact Go.run_make_row' 57 4 _ 1 Try.underlying57 info4 rfl .i64 .i64 _ (by omega) (by omega) wx
  have hw1 : IntKind.i64.wrap (2 * (M : Int)) = 2 * (M : Int) := by simp [IntKind.wrap, IntKind.bits, IntKind.signed]; omega
  have hw2 : IntKind.i64.wrap (2 * (M : Int) * (M : Int)) = 2 * (M : Int) * (M : Int) := by generalize 2 * (M : Int) * (M : Int) = z at *; simp [IntKind.wrap, IntKind.bits, IntKind.signed]; omega
  have HM := Lib.hid hM
  clear hM hK hKn hMM
  go_upto_region 2 with fail
  refine' wp_region_ext 13 20 (by kernel_rfl) rfl (by kernel_rfl) Nope (fun w1 => wc.heap.size ≤ w1.heap.size) ?_ _ ?_ ?_
  · intro y hy
    exact hy.size
  rotate_left 1
  · skip
    iterate 5
      apply Walk.exact
      · rfl
      · rintro ev w1 ⟨ec, eg, ef⟩ hR -
        go_simp
        intros
        go_simp
        exact ⟨Ext.refl _ _, rfl⟩
    apply Walk.fact (Made wc.heap.size 22 (.slice none 0 0) (places M))
    · rfl
    · rintro v w1 w3 _ hx _ _ ⟨b, h1, h2, h3⟩
      exact ⟨b, h1, h2, hx.heap h3 (fun h => h)⟩
    · rintro ev w1 ⟨ec, eg, ef⟩ hR hsz
      have hrun := m22 w1
      have HSZ := Lib.hid hsz
      clear hsz
      go_simp
      intros
      go_simp
      try simp only [hw1, hw2, hrun, Result.andThen]
      exact ⟨(Ext.refl _ _).alloc _, w1.heap.size, HSZ.out, rfl, (MapKept.heap_alloc w1 _).1⟩
    iterate 4
      apply Walk.exact
      · rfl
      · rintro ev w1 ⟨ec, eg, ef⟩ hR -
        go_simp
        intros
        go_simp
        exact ⟨Ext.refl _ _, rfl⟩
    apply Walk.fact (Made wc.heap.size 4 (.bool false) (places M))
    · rfl
    · rintro v w1 w3 _ hx _ _ ⟨b, h1, h2, h3⟩
      exact ⟨b, h1, h2, hx.heap h3 (fun h => h)⟩
    · rintro ev w1 ⟨ec, eg, ef⟩ hR hsz
      have hrun := m4 w1
      have HSZ := Lib.hid hsz
      clear hsz
      go_simp
      intros
      go_simp
      try simp only [hw1, hw2, hrun, Result.andThen]
      exact ⟨(Ext.refl _ _).alloc _, w1.heap.size, HSZ.out, rfl, (MapKept.heap_alloc w1 _).1⟩
    apply Walk.fact (MadeNet wc.heap.size M (places M))
    · rfl
    · rintro v w1 w3 _ hx _ _ ⟨vq, vt, h1, ⟨b, h2, h3, h4⟩, ⟨b', h5, h6, h7⟩⟩
      exact ⟨vq, vt, h1, ⟨b, h2, h3, hx.heap h4 (fun h => h)⟩, ⟨b', h5, h6, hx.heap h7 (fun h => h)⟩⟩
    · rintro ev w1 ⟨ec, eg, ef⟩ hR -
      simp only [sees, Known.find, Op.operands, Call.operands, List.toList_toArray, List.append_toArray, List.nil_append, List.append_nil, ↓reduceIte, Option.some.injEq, Nat.reduceEqDiff, Spec.holds, List.map_cons, List.map_nil, List.map_toArray]
      rintro ⟨h7, ⟨b1, q1, q2, q3⟩, ⟨b2, q4, q5, q6⟩, -⟩
      go_simp
      exact ⟨Ext.refl _ _, _, _, rfl, ⟨b1, q1, rfl, q3⟩, ⟨b2, q4, rfl, q6⟩⟩
    apply Walk.fact (MadeRef wc.heap.size M)
    · rfl
    · rintro v w1 w3 _ hx _ _ ⟨r, rq, rt, h1, h2, h3⟩
      exact ⟨r, rq, rt, h1, h2.ext hx, h3⟩
    · rintro ev w1 ⟨ec, eg, ef⟩ hR hsz
      simp only [sees, Known.find, Op.operands, Call.operands, List.toList_toArray, List.append_toArray, List.nil_append, List.append_nil, ↓reduceIte, Option.some.injEq, Nat.reduceEqDiff, Spec.holds, List.map_cons, List.map_nil, List.map_toArray]
      rintro ⟨⟨vq, vt, h18, ⟨b1, q1, q2, q3⟩, ⟨b2, q4, q5, q6⟩⟩, -⟩
      subst q2
      subst q5
      have he : Ext Nope w1 (w1.alloc (.cells #[.int .i64 (M : Int), .slice (some ⟨b1, 0, none⟩) (places (M : Int)) (places (M : Int)), .slice (some ⟨b2, 0, none⟩) (places (M : Int)) (places (M : Int))] 59)) := (Ext.refl _ _).alloc _
      obtain ⟨rq, rt, g1, g2, g3⟩ := ref_made (by omega) (MapKept.heap_alloc w1 _).1 ⟨b1, q1, rfl, he.heap q3 (fun h => h)⟩ ⟨b2, q4, rfl, he.heap q6 (fun h => h)⟩
      have HG := Lib.hid g1
      have HSZ := Lib.hid hsz
      clear g1 hsz
      go_simp
      first
        | exact ⟨he, _, rq, rt, rfl, HG.out, HSZ.out, g2, g3⟩
        | exact ⟨_, rq, rt, rfl, HG.out, HSZ.out, g2, g3⟩
    exact Walk.nil
  · rintro w2 he2 -
    simp only [Finish]
    intro v19 h19 v18 _ v17 _ v12 _
    go_simp
    go_wp2
    go_ret
    rw [← HM.out]
    exact ⟨v19, rfl, h19, he2⟩
end Go.Proofs.Ytjpkhediolahaaa
