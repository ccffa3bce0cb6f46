/- The law's 'does', whatever the call is; and the calls that the law was given, in memory. Conditions: both nets hold the same. -/
import Derived.Test.YtjpkhediolahaaaPr
set_option linter.unusedVariables false
set_option linter.unusedSimpArgs false
set_option linter.unusedSectionVars false
set_option linter.unnecessarySimpa false
namespace Go.Proofs.Ytjpkhediolahaaa
open Go.RowKit Go.Mk Go.Maps

theorem does_any {W w : World} {b bq bt r rq rt : Nat} {N : Int} {s : NS} (h : Pr W w b bq bt r rq rt N s s) (kd c f u k : Int) (va : Option Addr) (vc : Nat) (bs : List UInt8) (hvb : BytesAt W (.slice va bs.length vc) bs) (hx : wayOk (c, f, u)) (h1 : i64ok kd) :
    Calls Try.prog 20 #[.pointer (some ⟨b, 0, none⟩), .pointer (some ⟨r, 0, none⟩), opV kd c f u k (.slice va bs.length vc)] w (DoesPost W b bq bt r rq rt N) := by
  have h1' : -9223372036854775808 ≤ kd ∧ kd ≤ 9223372036854775807 := by
    unfold i64ok Lit.wf at h1
    simpa [IntKind.min, IntKind.max, IntKind.signed, IntKind.bits] using h1
  obtain ⟨b1, b2⟩ := kindOf_bd kd 8 (by omega)
  by_cases h4 : kindOf kd 8 < 4
  · exact does_push h kd c f u k va vc bs hvb hx h1'.1 h1'.2 h4
  · by_cases h6 : kindOf kd 8 = 6
    · exact does_peek h kd c f u k _ hx h1'.1 h1'.2 h6
    · by_cases h7 : kindOf kd 8 = 7
      · exact does_turn h kd c f u k _ hx h1'.1 h1'.2 h7
      · exact does_pop h kd c f u k _ hx h1'.1 h1'.2 (by omega)

/-- A call that the law was given. -/
structure OpR where
  kd : Int
  c : Int
  f : Int
  u : Int
  k : Int
  bs : List UInt8
def OpR.ok (o : OpR) : Prop := i64ok o.kd ∧ wayOk (o.c, o.f, o.u) ∧ i64ok o.k
/-- It lies at this address. -/
def OpAtA (W : World) (a : Addr) (o : OpR) : Prop :=
  W.cell? a = some (.int .i64 o.kd) ∧ W.cell? (a.add 1) = some (.int .i64 o.c) ∧ W.cell? (a.add 2) = some (.int .i64 o.f) ∧ W.cell? (a.add 3) = some (.int .i64 o.u) ∧ W.cell? (a.add 4) = some (.int .i64 o.k) ∧
    ∃ va vc, W.cell? (a.add 5) = some (.slice va o.bs.length vc) ∧ BytesAt W (.slice va o.bs.length vc) o.bs
/-- The calls. -/
def OpsAt (W : World) (a : Option Addr) (cap : Nat) (L : List OpR) : Prop :=
  L.length ≤ cap ∧ cap ≤ maxLen ∧ (a = none → cap = 0) ∧ ∀ ad, a = some ad → ∀ (i : Nat) (o : OpR), L[i]? = some o → o.ok ∧ OpAtA W (ad.add (i * 6)) o
end Go.Proofs.Ytjpkhediolahaaa
