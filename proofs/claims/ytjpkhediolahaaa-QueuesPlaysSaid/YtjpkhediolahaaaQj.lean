/- Contracts of New and Empty. Conditions: the net is in memory as NetAt says. -/
import Derived.Test.YtjpkhediolahaaaQi
import Derived.Test.YtjpkhediolahaaaRng
set_option linter.unusedVariables false
set_option linter.unusedSimpArgs false
set_option linter.unusedSectionVars false
set_option linter.unnecessarySimpa false
namespace Go.Proofs.Ytjpkhediolahaaa
open Go.RowKit Go.Mk Go.Maps

open Classical in
noncomputable def emptyB (q : Way → List (List UInt8)) : Bool := decide (∀ x, wayOk x → q x = [])
def BoolPost (w : World) (b : Bool) (e : Ending) (w' : World) : Prop := e = .returned (.bool b) ∧ Ext Nope w w'

theorem emptyB_true {q : Way → List (List UInt8)} (h : ∀ x, wayOk x → q x = []) : emptyB q = true := by simp only [emptyB, decide_eq_true_eq]; exact h
theorem emptyB_false {q : Way → List (List UInt8)} {x : Way} (hx : wayOk x) (h : q x ≠ []) : emptyB q = false := by
  simp only [emptyB, decide_eq_false_iff_not]
  exact fun h' => h (h' x hx)

theorem rows_len {w : World} {a : Option Addr} {n cap : Nat} {rows : List (List UInt8)} (h : RowsAt w (.slice a n cap) rows) : n = rows.length := by
  obtain ⟨vs, ⟨_, a', c', he, _⟩, _⟩ := h
  simp only [Value.slice.injEq] at he
  exact he.2.1

def EmptyRel (w : World) (bq : Nat) (q : Way → List (List UInt8)) (M : Way → Option Value) (wr : World) : Prop :=
  ∃ todo, RangeAt Try.prog 53 wayV wayOk wr bq w.heap.size M todo ∧ Ext Nope w wr ∧ ∀ x, (M x).isSome = true → ¬ todo x → q x = []

set_option maxHeartbeats 1000000 in
theorem empty_any {w b bq bt N q tn} (h : NetAt w b bq bt N q tn) : Calls Try.prog 15 #[.pointer (some ⟨b, 0, none⟩)] w (BoolPost w (emptyB q)) := by
  have hc1 := h.c1
  obtain ⟨M, hm, hv⟩ := h.qm
  have hb := h.lt
  have hbq := hm.lt
  obtain ⟨w0, hrun0, he0, hr0⟩ := hm.range way_enc (t := 49) (e := 22) Try.underlying49
  have HM := Lib.hid hm
  have HV := Lib.hid hv
  have HE := Lib.hid he0
  have HR := Lib.hid hr0
  clear hm hv h he0 hr0
  go_enter Try.func15, Try.ntmps15
  go_wp2
  go_loopw [4] (fun _ wr => EmptyRel w bq q M wr) (fun _ wr => toCome wr bq w.heap.size)
  case atStart => exact ⟨_, HR.out, HE.out, fun x hx hn => absurd hx hn⟩
  case round =>
    obtain ⟨todo, hr, he, hdone⟩ := hrel
    have HD := Lib.hid hdone
    rcases hr.next way_enc 0 with ⟨hno, hnx⟩ | ⟨x, v, w1, hx, hto, hMx, hnx, he1, hr1, hst, hlt⟩
    · have hB : emptyB q = true := emptyB_true fun x hx => by
        cases hMx : M x with
        | none =>
          have := (HV.out x hx).1
          rw [hMx] at this
          exact List.eq_nil_of_length_eq_zero (rows_len this).symm
        | some v => exact HD.out x (by rw [hMx]; rfl) (hno x)
      have HB := Lib.hid hB
      clear hB hno hr hdone
      go_wp2
      go_ret
      exact ⟨by rw [HB.out]; rfl, he⟩
    · have hrow := (HV.out x hx).1
      rw [hMx, Option.getD_some] at hrow
      obtain ⟨vs, ⟨_, a, cap, hve, _⟩, _⟩ := id hrow
      have hen := hst.entry (P := Try.prog)
      have hew : Ext Nope w w1 := he.trans' he1 (fun i hi => .inr (by omega))
      have HX := Lib.hid hMx
      have HRr := Lib.hid hr1
      have HST := Lib.hid hst
      subst hve
      clear hrow hMx hr1 hst hr hdone hto
      by_cases hq0 : q x = []
      · rw [hq0] at hen
        go_wp2
        refine ⟨⟨_, HRr.out, hew, fun y hy hn => ?_⟩, hlt⟩
        by_cases e : y = x
        · rw [e]; exact hq0
        · exact HD.out y hy (fun ht => hn ⟨ht, e⟩)
      · have hq1 : 0 < (q x).length := List.length_pos_iff.2 hq0
        have hB : emptyB q = false := emptyB_false hx hq0
        have HB := Lib.hid hB
        clear hB
        generalize hn : (q x).length = n at *
        have HN := Lib.hid hn
        clear hn
        have hn1 : decide ((0 : Int) < (n : Int)) = true := by simpa using hq1
        go_wp2
        go_ret
        exact ⟨by rw [HB.out]; rfl, hew⟩

def NewPost (w : World) (N : Int) (e : Ending) (w' : World) : Prop :=
  ∃ b bq bt, e = .returned (.pointer (some ⟨b, 0, none⟩)) ∧ NetAt w' b bq bt N (fun _ => []) (fun _ => 0) ∧ Ext Nope w w' ∧ w.heap.size ≤ b ∧ w.heap.size ≤ bq ∧ w.heap.size ≤ bt

theorem net_new (w : World) (N : Int) (hN : 0 ≤ N ∧ N ≤ 16) :
    NetAt (((w.alloc (.map #[] 0)).alloc (.map #[] 0)).alloc (.cells #[.int .i64 N, .map (some w.heap.size), .map (some (w.heap.size + 1))] 52)) (w.heap.size + 2) w.heap.size (w.heap.size + 1) N (fun _ => []) (fun _ => 0) := by
  have h1 : MapAt Try.prog 53 wayV wayOk (w.alloc (.map #[] 0)) w.heap.size (fun _ => none) := MapAt.made w
  have h2 : MapAt Try.prog 53 wayV wayOk ((w.alloc (.map #[] 0)).alloc (.map #[] 0)) (w.heap.size + 1) (fun _ => none) := by
    have := MapAt.made (P := Try.prog) (kt := 53) (enc := wayV) (ok := wayOk) (w.alloc (.map #[] 0))
    simpa using this
  have e1 : ∀ (w : World) o, Ext Nope w (w.alloc o) := fun w o => (Ext.refl _ _).alloc o
  refine ⟨?_, by omega, ⟨_, (h1.ext (e1 _ _) (fun h => h)).ext (e1 _ _) (fun h => h), fun x hx => ⟨⟨[], SliceAt.nil _ _, fun i x r h => by simp at h⟩, TypedAt.none _ _ _ _⟩⟩, ⟨_, h2.ext (e1 _ _) (fun h => h), fun x hx => rfl⟩, hN⟩
  have := (MapKept.heap_alloc ((w.alloc (.map #[] 0)).alloc (.map #[] 0)) (.cells #[.int .i64 N, .map (some w.heap.size), .map (some (w.heap.size + 1))] 52)).1
  simpa using this

theorem newPost_of (w : World) (N' N : Int) (h : N' = N) (hN : 0 ≤ N ∧ N ≤ 16) :
    NewPost w N (.returned (.pointer (some ⟨w.heap.size + 1 + 1, 0, none⟩))) (((w.alloc (.map #[] 0)).alloc (.map #[] 0)).alloc (.cells #[.int .i64 N', .map (some w.heap.size), .map (some (w.heap.size + 1))] 52)) := by
  subst h
  exact ⟨_, _, _, rfl, net_new w N' hN, (((Ext.refl _ _).alloc _).alloc _).alloc _, by omega, by omega, by omega⟩

set_option maxHeartbeats 400000 in
theorem new_any (n : Int) (w : World) : Calls Try.prog 8 #[.int .i64 n] w (NewPost w (min (max n 0) 16)) := by
  have hmm := @run_makeMap Try.prog
  go_enter Try.func8, Try.ntmps8
  go_wp2
  all_goals (go_ret; exact newPost_of w _ _ (by omega) (by omega))

end Go.Proofs.Ytjpkhediolahaaa
