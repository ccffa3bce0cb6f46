/- The law's 'does': what a Peek of both nets comes to. Conditions: both nets hold the same. -/
import Derived.Test.YtjpkhediolahaaaPp
set_option linter.unusedVariables false
set_option linter.unusedSimpArgs false
set_option linter.unusedSectionVars false
set_option linter.unnecessarySimpa false
namespace Go.Proofs.Ytjpkhediolahaaa
open Go.RowKit Go.Mk Go.Maps

/-- Since w1 only new blocks; block g is so many bytes. -/
def Scratch (w1 : World) (g m : Nat) (w : World) : Prop := Ext Nope w1 w ∧ w1.heap.size ≤ g ∧ ∃ cur : Array Value, w.heap[g]? = some (.cells cur 5 (0, 0)) ∧ cur.size = m
theorem Scratch.set {w1 w : World} {g m : Nat} (h : Scratch w1 g m w) (i : Nat) (v : Value) : Scratch w1 g m (w.setCell ⟨g, i, none⟩ v) := by
  obtain ⟨h1, h2, cur, h3, h4⟩ := h
  exact ⟨h1.setCell (p := ⟨g, i, none⟩) (.inr h2) v, h2, _, heap_setCell_same h3 i v, by simpa using h4⟩
theorem Scratch.cell {w1 w : World} {g m : Nat} (h : Scratch w1 g m w) {i : Nat} (hi : i < m) : ∃ u, w.cell? ⟨g, i, none⟩ = some u := by
  obtain ⟨h1, h2, cur, h3, h4⟩ := h
  exact ⟨cur[i]'(by omega), by simp [World.cell?, h3]⟩
theorem Scratch.free {w1 w : World} {g m : Nat} (h : Scratch w1 g m w) (i : Nat) : w.frozen? ⟨g, i, none⟩ = false := by
  obtain ⟨h1, h2, cur, h3, h4⟩ := h
  simp [World.frozen?, h3]

set_option maxRecDepth 20000 in
set_option maxHeartbeats 4000000 in
theorem does_peek {W w : World} {b bq bt r rq rt : Nat} {N : Int} {s : NS} (h : Pr W w b bq bt r rq rt N s s) (kd c f u k : Int) (vb : Value) (hx : wayOk (c, f, u)) (h1 : -9223372036854775808 ≤ kd) (h2 : kd ≤ 9223372036854775807) (hk : kindOf kd 8 = 6) :
    Calls Try.prog 20 #[.pointer (some ⟨b, 0, none⟩), .pointer (some ⟨r, 0, none⟩), opV kd c f u k vb] w (DoesPost W b bq bt r rq rt N) := by
  have hd := Dt.made h kd c f u k vb
  have HX := Lib.hid hx
  have HD := Lib.hid hd
  have hka := fun w' => kind_any kd 8 w' h1 h2 (by omega) (by omega)
  unfold opV
  rw [hk] at hka
  clear h hx h1 h2 hk
  go_enter Try.func20, Try.ntmps20
  go_wp2_with fail
  refine (hka _).mono ?_
  rintro e w1 ⟨rfl, rfl⟩
  clear hka
  obtain ⟨o0, o1, o2, o3, o4, o5⟩ := hd.op.cells
  clear hd
  go_wp2_with fail
  refine (pn_peek HD.out.pr c f u k HX.out).mono ?_
  rintro e w2 ⟨v, rfl, ho, he2⟩
  have hd2 := HD.out.go he2
  obtain ⟨o0, o1, o2, o3, o4, o5⟩ := hd2.op.cells
  have HD2 := Lib.hid hd2
  have HO := Lib.hid ho
  have HE2 := Lib.hid he2
  clear hd2 ho he2
  go_wp2_with fail
  refine (py_peek HD2.out.pr c f u k).mono ?_
  rintro e w3 ⟨v', rfl, ho', he3⟩
  have HD3 := Lib.hid (HD2.out.go he3)
  have hoo := ownsRow_ext HO.out he3 (fun _ h => h.elim)
  have HP := Lib.hid HD.out.pr
  have HE := Lib.hid (HE2.out.trans he3)
  have hs2 := HE2.out.size
  clear o0 o1 o2 o3 o4 o5 HD HD2 HD3 HE2
  obtain ⟨a', c', rfl⟩ := own_slice ho'
  generalize w.alloc (.cells #[.int .i64 kd, .int .i64 c, .int .i64 f, .int .i64 u, .int .i64 k, vb] 46) = w1 at *
  clear ho' HO he3
  generalize peekM N s (c, f, u) k = pp at *
  generalize hn : pp.2.length = n at *
  obtain ⟨_, ⟨rfl, rfl⟩ | ⟨g, cap, cur, rfl, hg1, hg2, hg3, hg4, hg5, hg6⟩⟩ := hoo
  · go_wp2_with fail
    go_loopw [15] (fun i wr => i = .int .i64 0 ∧ wr = w3) (fun _ _ => 0)
    case atStart => exact ⟨rfl, rfl⟩
    case round =>
      obtain ⟨rfl, rfl⟩ := hrel
      go_wp2_with fail
      go_ret
      exact ⟨rfl, s, HP.out.on HE.out⟩
  · have hn32 : (n : Int) ≤ 9223372036854775807 := by
      unfold maxLen at hg4
      omega
    have hsc : Scratch w1 g cap w3 := ⟨HE.out, by omega, cur, hg2, by simpa using hg5⟩
    have HSC := Lib.hid hsc
    have HL := Lib.hid hg3
    clear hsc hg2 hg3 hg4 hg5 hg6 hg1
    go_wp2_with fail
    go_loopw [15] (fun i wr => ∃ p : Nat, p ≤ n ∧ i = .int .i64 p ∧ Hid (Scratch w1 g cap wr)) (fun i _ => n - (intOf i).toNat)
    case atStart => exact ⟨0, Nat.zero_le _, rfl, HSC⟩
    case round =>
      obtain ⟨p, hp, rfl, HR⟩ := hrel
      by_cases hpn : p < n
      · have hpn' : (p : Int) < (n : Int) := by omega
        have hpc : p < cap := by have := HL.out; omega
        obtain ⟨x, hx⟩ := HR.out.cell hpc
        have hfz := HR.out.free p
        have HR2 := Lib.hid (HR.out.set p (.int .u8 99))
        go_wp2_with fail
        go_roundw
        case rel => exact ⟨p + 1, by omega, by go_num, HR2⟩
        case measure => simp [intOf]; omega
      · have hpn' : ¬ (p : Int) < (n : Int) := by omega
        go_wp2_with fail
        go_ret
        exact ⟨rfl, s, HP.out.on HR.out.1⟩
end Go.Proofs.Ytjpkhediolahaaa
