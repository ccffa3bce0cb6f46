/- Contracts of short, kind, shown (the document's example). Conditions: each lemma bears its own. -/
import Derived.Test.YtjpkhediolahaaaQk
import Derived.Lib.SlBytesConst
set_option linter.unusedVariables false
set_option linter.unusedSimpArgs false
set_option linter.unusedSectionVars false
set_option linter.unnecessarySimpa false
namespace Go.Proofs.Ytjpkhediolahaaa
open Go.RowKit Go.Mk Go.Maps

def strOf (bs : List UInt8) : Value := .string ⟨bs.toArray⟩

theorem fold_bytes : ∀ (bs : List UInt8) (s : ByteArray), (bs.map (fun b : UInt8 => (b.toNat : Int))).foldl (fun r n => r.push (UInt8.ofNat n.toNat)) s = ⟨s.data ++ bs.toArray⟩
  | [], s => by simp
  | b :: bs, s => by
    simp only [List.map_cons, List.foldl_cons]
    rw [fold_bytes bs]
    simp [ByteArray.push]

theorem bytes_string {w : World} {v : Value} {bs : List UInt8} (h : BytesAt w v bs) : (convert 29 9 v).run Try.prog w = .ok (strOf bs) w := by
  obtain ⟨hl, a, cap, rfl, h1, h2, h3, h4⟩ := h
  rw [run_convert_bytes_string w 29 9 5 a _ cap Try.underlying29 Try.underlying5 Try.underlying9]
  cases a with
  | none =>
    have : bs.length = 0 := by have := h3 rfl; omega
    have : bs = [] := List.eq_nil_of_length_eq_zero this
    subst this
    rfl
  | some ad =>
    have hload := run_loadCells_list (P := Try.prog) w ad (bs.map byteV) (h4 ad rfl)
    have e1 : bs.map byteV = (bs.map (fun b : UInt8 => (b.toNat : Int))).map (Value.int .u8) := by simp [byteV, Function.comp_def]
    rw [e1] at hload
    rw [List.length_map, List.length_map] at hload
    have := run_bytesToString (P := Try.prog) w ad bs.length cap _ hload
    rw [this, fold_bytes]
    simp [strOf]

theorem take_bytes {w : World} {a : Option Addr} {cap : Nat} {bs : List UInt8} (k : Nat) (hk : k ≤ bs.length) (h : BytesAt w (.slice a bs.length cap) bs) : BytesAt w (.slice a k cap) (bs.take k) := by
  obtain ⟨hl, a', cap', he, h1, h2, h3, h4⟩ := h
  simp only [Value.slice.injEq] at he
  obtain ⟨rfl, -, rfl⟩ := he
  have e1 : (bs.take k).length = k := by simp; omega
  refine ⟨by simp, a, cap, by rw [e1], by omega, h2, h3, fun ad e j u hu => h4 ad e j u ?_⟩
  rw [List.map_take, List.getElem?_take] at hu
  split at hu
  · exact hu
  · cases hu

def shortOf (bs : List UInt8) : List UInt8 := bs.take 100
theorem shortOf_len (bs : List UInt8) : (shortOf bs).length ≤ 100000 := by simp [shortOf]; omega

set_option maxHeartbeats 400000 in
theorem short_any {w : World} {v : Value} {bs : List UInt8} (h : BytesAt w v bs) :
    Calls Try.prog 10 #[v] w fun e w' => ∃ v', e = .returned v' ∧ BytesAt w' v' (shortOf bs) ∧ w = w' := by
  obtain ⟨_, a, cap, rfl, h1, h2, h3, _⟩ := id h
  have H := Lib.hid h
  clear h h3
  unfold maxLen at h2
  generalize hn : bs.length = n at *
  have HN := Lib.hid hn
  clear hn
  by_cases hl : 100 < n
  · go_enter Try.func10, Try.ntmps10
    go_wp2
    go_ret
    refine ⟨.slice a 100 cap, ?_, ?_, rfl⟩
    · cases a <;> simp [Addr.add]
    · have := H.out
      rw [← HN.out] at this
      exact take_bytes 100 (by rw [HN.out]; omega) this
  · go_enter Try.func10, Try.ntmps10
    go_wp2
    go_ret
    refine ⟨_, rfl, ?_, rfl⟩
    have := H.out
    rw [shortOf, List.take_of_length_le (by rw [HN.out]; omega)]
    exact this

/-- A batch of one byte that lies in a block of its own. -/
theorem one_byte (w : World) (x : UInt8) (fz : Nat × Nat) : BytesAt (w.alloc (.cells #[.int .u8 x.toNat] 5 fz)) (.slice (some ⟨w.heap.size, 0, none⟩) 1 1) [x] := by
  refine ⟨rfl, _, 1, rfl, Nat.le_refl _, by simp [maxLen], fun h => (by cases h), fun ad e j u hu => ?_⟩
  cases e
  have : j = 0 := by
    have := (List.getElem?_eq_some_iff.1 hu).1
    simp at this; omega
  subst this
  simp at hu
  subst hu
  have := (MapKept.heap_alloc w (.cells #[.int .u8 x.toNat] 5 fz)).1
  simp only [Addr.add, if_true, World.cell?]
  rw [this]
  rfl

theorem wok (c f t : Int) (h1 : -100 ≤ c ∧ c ≤ 100) (h2 : -100 ≤ f ∧ f ≤ 100) (h3 : -100 ≤ t ∧ t ≤ 100) : wayOk (c, f, t) := by
  have : ∀ x : Int, -100 ≤ x ∧ x ≤ 100 → i64ok x := fun x hx => by
    unfold i64ok Lit.wf
    simp [IntKind.min, IntKind.max, IntKind.signed, IntKind.bits]
    omega
  exact ⟨this _ h1, this _ h2, this _ h3⟩

def s1 : NS := ⟨upd (fun _ => []) (0, 1, 2) [[97]], fun _ => 0⟩
def s2 : NS := ⟨upd s1.q (0, 1, 2) [[97], [98]], fun _ => 0⟩
def s3 : NS := ⟨upd s2.q (0, 1, 2) [[98]], upd s2.tn (0, 1, 2) 0⟩
theorem p1 : pushM (min (max 3 0) 16) NS.none (0, 1, 2) [97] = (0, s1) := rfl
theorem p2 : pushM (min (max 3 0) 16) s1 (0, 1, 2) [98] = (0, s2) := rfl
theorem p3 : popM (min (max 3 0) 16) s2 (0, 1, 2) = (0, [97], s3) := rfl
theorem p4 : popM (min (max 3 0) 16) s3 (0, 2, 1) = (27, [], s3) := rfl
theorem p5 : (s3.q (0, 1, 2)).length = 1 := rfl
theorem p6 : emptyB s3.q = false := emptyB_false (x := (0, 1, 2)) (wok _ _ _ (by omega) (by omega) (by omega)) (by rw [show s3.q (0, 1, 2) = [[98]] from rfl]; simp)

set_option maxHeartbeats 1000000 in
theorem shown_any (w : World) : Calls Try.prog 7 #[] w (BoolPost w true) := by
  have kc := fun (w : World) (C : Array Value) (n c : Nat) => Lib.run_convert_bytes_const (P := Try.prog) w 29 5 C n c Try.underlying29 Try.underlying5
  have k012 : wayOk (0, 1, 2) := wok _ _ _ (by omega) (by omega) (by omega)
  have k021 : wayOk (0, 2, 1) := wok _ _ _ (by omega) (by omega) (by omega)
  have K1 := Lib.hid k012
  have K2 := Lib.hid k021
  clear k012 k021
  go_enter Try.func7, Try.ntmps7
  go_wp2_with fail
  refine (new_law 3 w).mono ?_
  rintro e w1 ⟨b, bq, bt, rfl, h1⟩
  go_wp2_with fail
  have c1 := push_law (h1.on ((Ext.refl _ _).alloc (.cells #[.int .u8 97] 5 (1, 2)))) 0 1 2 _ [97] K1.out (one_byte w1 97 (1, 2)) (by simp)
  rw [p1] at c1
  refine c1.mono ?_
  rintro e w2 ⟨rfl, h2, -⟩
  clear c1 h1
  go_wp2_with fail
  have c2 := push_law (h2.on ((Ext.refl _ _).alloc (.cells #[.int .u8 98] 5 (1, 2)))) 0 1 2 _ [98] K1.out (one_byte w2 98 (1, 2)) (by simp)
  rw [p2] at c2
  refine c2.mono ?_
  rintro e w3 ⟨rfl, h3, -⟩
  clear c2 h2
  go_wp2_with fail
  have c3 := pop_law h3 0 1 2 K1.out
  rw [p3] at c3
  refine c3.mono ?_
  rintro e w4 ⟨v, rfl, ho, h4, -⟩
  clear c3 h3
  go_wp2_with fail
  have c4 := pop_law h4 0 2 1 K2.out
  rw [p4] at c4
  refine c4.mono ?_
  rintro e w5 ⟨v', rfl, ho', h5, he5⟩
  have hv : BytesAt w5 v [97] := (SliceAt.of_own ho : BytesAt w4 v [97]).extM he5 h4.maps
  have hconv := bytes_string hv
  unfold strOf at hconv
  have c5 := len_law h5 0 1 2 K1.out
  rw [p5] at c5
  have c6 := fun w' (h : NetM w w' b bq bt (min (max 3 0) 16) s3) => empty_law h
  simp only [p6] at c6
  clear c4 hv
  go_wp2_with (first | (go_at_call 12; refine c5.mono ?_; rintro e w6 ⟨rfl, h6, -⟩) | (go_at_call 15; refine (c6 _ (by assumption)).mono ?_; rintro e w7 ⟨rfl, h7, -⟩))
  go_ret
  exact ⟨rfl, h7.ext⟩

end Go.Proofs.Ytjpkhediolahaaa
