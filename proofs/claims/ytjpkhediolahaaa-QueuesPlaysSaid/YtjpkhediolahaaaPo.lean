/- The law's 'does': what a Pop of both nets comes to. Conditions: both nets hold the same. -/
import Derived.Test.YtjpkhediolahaaaPn
import Derived.Deep.DeepCutAuto
set_option linter.unusedVariables false
set_option linter.unusedSimpArgs false
set_option linter.unusedSectionVars false
set_option linter.unnecessarySimpa false
namespace Go.Proofs.Ytjpkhediolahaaa
open Go.RowKit Go.Mk Go.Maps

/-- The call, boxed. -/
def opV (kd c f u k : Int) (vb : Value) : Value := .agg #[.int .i64 kd, .int .i64 c, .int .i64 f, .int .i64 u, .int .i64 k, vb]
def OpAt (w : World) (o : Nat) (kd c f u k : Int) (vb : Value) : Prop := w.heap[o]? = some (.cells #[.int .i64 kd, .int .i64 c, .int .i64 f, .int .i64 u, .int .i64 k, vb] 46 (0, 0))
theorem OpAt.cells {w : World} {o : Nat} {kd c f u k : Int} {vb : Value} (h : OpAt w o kd c f u k vb) :
    w.cell? ⟨o, 0, none⟩ = some (.int .i64 kd) ∧ w.cell? ⟨o, 1, none⟩ = some (.int .i64 c) ∧ w.cell? ⟨o, 2, none⟩ = some (.int .i64 f) ∧ w.cell? ⟨o, 3, none⟩ = some (.int .i64 u) ∧ w.cell? ⟨o, 4, none⟩ = some (.int .i64 k) ∧ w.cell? ⟨o, 5, none⟩ = some vb := by
  unfold OpAt at h
  simp [World.cell?, h]

/-- Both nets, and what the call is of. -/
structure Dt (W w : World) (b bq bt r rq rt : Nat) (N : Int) (s t : NS) (o : Nat) (kd c f u k : Int) (vb : Value) : Prop where
  pr : Pr W w b bq bt r rq rt N s t
  op : OpAt w o kd c f u k vb
  far : o ≠ rq ∧ o ≠ rt
theorem Dt.goN {W w w' : World} {b bq bt r rq rt : Nat} {N : Int} {s s' t : NS} {o : Nat} {kd c f u k : Int} {vb : Value} (h : Dt W w b bq bt r rq rt N s t o kd c f u k vb) (hp : Pr W w' b bq bt r rq rt N s' t) (he : Ext (Two bq bt) w w') : Dt W w' b bq bt r rq rt N s' t o kd c f u k vb :=
  ⟨hp, he.heap h.op (fun hm => by
    obtain ⟨es, cl, hb⟩ := h.pr.net.maps _ hm
    have := h.op
    unfold OpAt at this
    rw [hb] at this
    cases this), h.far⟩
theorem Dt.goY {W w w' : World} {b bq bt r rq rt : Nat} {N : Int} {s t t' : NS} {o : Nat} {kd c f u k : Int} {vb : Value} (h : Dt W w b bq bt r rq rt N s t o kd c f u k vb) (hp : Pr W w' b bq bt r rq rt N s t') (he : Ext (RTwo rq rt) w w') : Dt W w' b bq bt r rq rt N s t' o kd c f u k vb :=
  ⟨hp, he.heap h.op (fun hm => by rcases hm with e | e; exact h.far.1 e; exact h.far.2 e), h.far⟩
theorem Dt.go {W w w' : World} {b bq bt r rq rt : Nat} {N : Int} {s t : NS} {o : Nat} {kd c f u k : Int} {vb : Value} (h : Dt W w b bq bt r rq rt N s t o kd c f u k vb) (he : Ext Nope w w') : Dt W w' b bq bt r rq rt N s t o kd c f u k vb :=
  ⟨h.pr.on he, he.heap h.op (fun h => h), h.far⟩
theorem Dt.made {W w : World} {b bq bt r rq rt : Nat} {N : Int} {s t : NS} (h : Pr W w b bq bt r rq rt N s t) (kd c f u k : Int) (vb : Value) : Dt W (w.alloc (.cells #[.int .i64 kd, .int .i64 c, .int .i64 f, .int .i64 u, .int .i64 k, vb] 46)) b bq bt r rq rt N s t w.heap.size kd c f u k vb :=
  ⟨h.on ((Ext.refl _ _).alloc _), (MapKept.heap_alloc w _).1, by have := h.ref.ltq; omega, by have := h.ref.ltt; omega⟩

def DoesPost (W : World) (b bq bt r rq rt : Nat) (N : Int) (e : Ending) (w' : World) : Prop := e = .returned (.bool true) ∧ ∃ s, Pr W w' b bq bt r rq rt N s s

set_option maxRecDepth 20000 in
set_option maxHeartbeats 4000000 in
theorem does_pop {W w : World} {b bq bt r rq rt : Nat} {N : Int} {s : NS} (h : Pr W w b bq bt r rq rt N s s) (kd c f u k : Int) (vb : Value) (hx : wayOk (c, f, u)) (h1 : -9223372036854775808 ≤ kd) (h2 : kd ≤ 9223372036854775807) (hk : kindOf kd 8 = 4 ∨ kindOf kd 8 = 5) :
    Calls Try.prog 20 #[.pointer (some ⟨b, 0, none⟩), .pointer (some ⟨r, 0, none⟩), opV kd c f u k vb] w (DoesPost W b bq bt r rq rt N) := by
  have hd := Dt.made h kd c f u k vb
  have HK := Lib.hid hk
  have HX := Lib.hid hx
  have HD := Lib.hid hd
  have hka := fun w' => kind_any kd 8 w' h1 h2 (by omega) (by omega)
  unfold opV
  clear h hx h1 h2 hk hd
  go_enter Try.func20, Try.ntmps20
  go_wp2_with fail
  refine (hka _).mono ?_
  rintro e w1 ⟨rfl, rfl⟩
  have hdd := HD.out.op.cells
  rcases HK.out with hk | hk
  all_goals
    rw [hk]
    clear HK hka
    obtain ⟨o0, o1, o2, o3, o4, o5⟩ := hdd
    go_wp2_with fail
    refine (pn_pop HD.out.pr c f u HX.out).mono ?_
    rintro e w2 ⟨⟨v, rfl, ho, hp2⟩, he2⟩
    have hd2 := HD.out.goN hp2 he2
    obtain ⟨o0, o1, o2, o3, o4, o5⟩ := hd2.op.cells
    have HD2 := Lib.hid hd2
    have HO := Lib.hid ho
    clear hd2 ho hp2 he2
    go_wp2_with fail
    refine (py_pop HD2.out.pr c f u).mono ?_
    rintro e w3 ⟨⟨v', rfl, ho', hp3⟩, he3⟩
    have hb := bytes_string (BytesAt.extH (SliceAt.of_own HO.out) he3 HD2.out.pr.ref.hard)
    have hb' := bytes_string (show BytesAt w3 v' _ from SliceAt.of_own ho')
    have HP3 := Lib.hid hp3
    unfold strOf at hb hb'
    clear ho' hp3 he3
    generalize popM N s (c, f, u) = pp at *
    go_wp2_with fail
    go_ret
    exact ⟨rfl, _, HP3.out⟩
end Go.Proofs.Ytjpkhediolahaaa
