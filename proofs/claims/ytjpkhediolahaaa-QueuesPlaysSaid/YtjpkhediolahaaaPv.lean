/- QueuesPlays: what the law holds in its rounds. -/
import Derived.Test.YtjpkhediolahaaaPt
set_option linter.unusedVariables false
set_option linter.unusedSimpArgs false
set_option linter.unusedSectionVars false
set_option linter.unnecessarySimpa false
namespace Go.Proofs.Ytjpkhediolahaaa
open Go.RowKit Go.Mk Go.Maps

/-- A call lies in these six cells. -/
structure OpC (w : World) (B x : Nat) (o : OpR) (va : Option Addr) (vc : Nat) : Prop where
  c0 : w.cell? ⟨B, x, none⟩ = some (.int .i64 o.kd)
  c1 : w.cell? ⟨B, x + 1, none⟩ = some (.int .i64 o.c)
  c2 : w.cell? ⟨B, x + 2, none⟩ = some (.int .i64 o.f)
  c3 : w.cell? ⟨B, x + 3, none⟩ = some (.int .i64 o.u)
  c4 : w.cell? ⟨B, x + 4, none⟩ = some (.int .i64 o.k)
  c5 : w.cell? ⟨B, x + 5, none⟩ = some (.slice va o.bs.length vc)
theorem OpC.ext {w w' : World} {B x : Nat} {o : OpR} {va : Option Addr} {vc : Nat} (h : OpC w B x o va vc) (he : Ext Nope w w') : OpC w' B x o va vc :=
  ⟨he.cell h.c0 (fun h => h), he.cell h.c1 (fun h => h), he.cell h.c2 (fun h => h), he.cell h.c3 (fun h => h), he.cell h.c4 (fun h => h), he.cell h.c5 (fun h => h)⟩

theorem add_off (B x j : Nat) : (⟨B, x, none⟩ : Addr).add j = ⟨B, x + j, none⟩ := by
  unfold Addr.add
  split
  · next h => subst h; rfl
  · rfl
theorem ops_one {W : World} {a : Option Addr} {cap : Nat} {L : List OpR} (h : OpsAt W a cap L) (hn : L.length ≠ 0) : ∃ B F, a = some ⟨B, F, none⟩ ∧ ∀ (i : Nat) (hi : i < L.length), L[i].ok ∧ ∃ va vc, OpC W B (F + i * 6) L[i] va vc ∧ BytesAt W (.slice va L[i].bs.length vc) L[i].bs := by
  obtain ⟨h1, h2, h3, h4⟩ := h
  cases a with
  | none => have := h3 rfl; omega
  | some ad =>
    obtain ⟨B, F, sp⟩ := ad
    have h0 : 0 < L.length := by omega
    obtain ⟨_, k0, _⟩ := h4 _ rfl 0 _ (List.getElem?_eq_getElem h0)
    have hsp : sp = none := by
      simp only [Nat.zero_mul, Addr.add, if_true, World.cell?] at k0
      cases sp with
      | none => rfl
      | some q =>
        split at k0
        · simp at k0
        · cases k0
    subst hsp
    refine ⟨B, F, rfl, fun i hi => ?_⟩
    obtain ⟨hok, k0, k1, k2, k3, k4, va, vc, k5, hb⟩ := h4 _ rfl i _ (List.getElem?_eq_getElem hi)
    rw [add_off] at k0 k1 k2 k3 k4 k5
    rw [add_off] at k1 k2 k3 k4 k5
    exact ⟨hok, va, vc, ⟨k0, k1, k2, k3, k4, k5⟩, hb⟩

/-- Both nets, alike, as the law holds them. -/
def Like (W : World) (b r rq rt : Nat) (N : Int) (w : World) : Prop := ∃ bq bt s, Pr W w b bq bt r rq rt N s s
theorem like_new (W w : World) (he : Ext Nope W w) (n : Int) : Calls Try.prog 8 #[.int .i64 n] w fun e w' => ∃ b bq bt, e = .returned (.pointer (some ⟨b, 0, none⟩)) ∧ NetM W w' b bq bt (min (max n 0) 16) NS.none := by
  refine (new_law n w).mono ?_
  rintro e w' ⟨b, bq, bt, rfl, h⟩
  exact ⟨b, bq, bt, rfl, h.net, Nat.le_trans he.size h.nb, Nat.le_trans he.size h.nq, Nat.le_trans he.size h.nt, h.ok, he.trans h.ext⟩
theorem like_ref {W w : World} {b bq bt : Nat} {n : Int} (h : NetM W w b bq bt (min (max n 0) 16) NS.none) : Calls Try.prog 18 #[.int .i64 n] w fun e w' => ∃ r rq rt, e = .returned (.pointer (some ⟨r, 0, none⟩)) ∧ Like W b r rq rt (min (max n 0) 16) w' := by
  refine (rnew_any n w).mono ?_
  rintro e w' ⟨v, rfl, ⟨r, rq, rt, rfl, hr, h1, h2, h3⟩, he⟩
  have hs := h.ext.size
  exact ⟨r, rq, rt, rfl, bq, bt, NS.none, h.on he, hr, by omega, by omega, by omega, NS.none_ok, fun _ _ => rfl⟩
theorem Like.ext {W w : World} {b r rq rt : Nat} {N : Int} (h : Like W b r rq rt N w) : Ext Nope W w := by
  obtain ⟨bq, bt, s, hp⟩ := h
  exact hp.ext
theorem Like.on {W w w' : World} {b r rq rt : Nat} {N : Int} (h : Like W b r rq rt N w) (he : Ext Nope w w') : Like W b r rq rt N w' := by
  obtain ⟨bq, bt, s, hp⟩ := h
  exact ⟨bq, bt, s, hp.on he⟩
theorem like_does {W w : World} {b r rq rt : Nat} {N : Int} (h : Like W b r rq rt N w) (o : OpR) (ho : o.ok) (va : Option Addr) (vc : Nat) (hb : BytesAt W (.slice va o.bs.length vc) o.bs) :
    Calls Try.prog 20 #[.pointer (some ⟨b, 0, none⟩), .pointer (some ⟨r, 0, none⟩), .agg #[.int .i64 o.kd, .int .i64 o.c, .int .i64 o.f, .int .i64 o.u, .int .i64 o.k, .slice va o.bs.length vc]] w fun e w' => e = .returned (.bool true) ∧ Like W b r rq rt N w' := by
  obtain ⟨bq, bt, s, hp⟩ := h
  refine (does_any hp o.kd o.c o.f o.u o.k va vc o.bs hb ho.2.1 ho.1).mono ?_
  rintro e w' ⟨rfl, s', hp'⟩
  exact ⟨rfl, bq, bt, s', hp'⟩
end Go.Proofs.Ytjpkhediolahaaa
