/-
  The walk of traits.Select; slices of headers.
  Conditions: the arguments read as headers and a type.
-/
import Derived.Test.YtkoddmgbpjmohaaArgs
namespace Go.Proofs.Ytkoddmgbpjmohaa
open Go.RowKit

def flat5 (qs : List HV) : List Value := qs.flatMap HV.cells
theorem flat5_length (qs : List HV) : (flat5 qs).length = qs.length * 5 := by
  induction qs with
  | nil => rfl
  | cons v r ih => simp only [flat5, List.flatMap_cons, List.length_append, List.length_cons, HV.cells, List.length_nil] at ih ⊢; omega
theorem flat5_at : ∀ (qs : List HV) (i : Nat) (q : HV), qs[i]? = some q → (flat5 qs)[i * 5]? = some q.d ∧ (flat5 qs)[i * 5 + 1]? = some q.p ∧ (flat5 qs)[i * 5 + 2]? = some q.t ∧ (flat5 qs)[i * 5 + 3]? = some q.n ∧ (flat5 qs)[i * 5 + 4]? = some q.a
  | [], i, q, h => by simp at h
  | v :: r, 0, q, h => by
    simp at h
    subst h
    simp [flat5, HV.cells]
  | v :: r, i + 1, q, h => by
    have := flat5_at r i q (by simpa using h)
    have e : (i + 1) * 5 = i * 5 + 5 := by omega
    rw [e]
    simpa [flat5, HV.cells] using this
theorem flat5_append (a b : List HV) : flat5 (a ++ b) = flat5 a ++ flat5 b := by simp [flat5]

/-- A slice of headers. -/
structure Hds (w : World) (S : Nat → Prop) (A : Option Addr) (hs : List Hdr) (qs : List HV) : Prop where
  len : qs.length = hs.length
  row : Row w S A (flat5 qs)
  each : ∀ (i : Nat) (h : Hdr) (q : HV), hs[i]? = some h → qs[i]? = some q → HdIs w S h q
  small : ∀ h ∈ hs, h.type.size ≤ 1000000
  few : hs.length ≤ 1000000

theorem Hds.keep {w w' : World} {S : Nat → Prop} {A : Option Addr} {hs : List Hdr} {qs : List HV} (h : Hds w S A hs qs) (hk : Kept S w w') : Hds w' S A hs qs := ⟨h.len, h.row.keep hk, fun i t p ht hp => (h.each i t p ht hp).keep hk, h.small, h.few⟩
theorem Hds.more {w : World} {S S' : Nat → Prop} {A : Option Addr} {hs : List Hdr} {qs : List HV} (h : Hds w S A hs qs) (hS : ∀ b, S b → S' b) : Hds w S' A hs qs := ⟨h.len, h.row.more hS, fun i t p ht hp => (h.each i t p ht hp).more hS, h.small, h.few⟩
theorem Hds.now {w w' : World} {n : Nat} {A : Option Addr} {hs : List Hdr} {qs : List HV} (h : Hds w (Lt n) A hs qs) (hn : n ≤ w.heap.size) (hb : Below w.heap.size w w') : Hds w' (Lt w'.heap.size) A hs qs :=
  (h.keep (kept_below (hb.mono hn))).more fun _ h => Nat.lt_of_lt_of_le h (Nat.le_trans hn hb.size)
theorem Hds.at_ {w : World} {S : Nat → Prop} {A : Option Addr} {hs : List Hdr} {qs : List HV} {i : Nat} {h : Hdr} (H : Hds w S A hs qs) (hi : hs[i]? = some h) :
    ∃ (ad : Addr) (q : HV), A = some ad ∧ S ad.block ∧ qs[i]? = some q ∧ w.cell? (ad.add (i * 5)) = some q.d ∧ w.cell? ⟨(ad.add (i * 5)).block, (ad.add (i * 5)).off + 1, none⟩ = some q.p ∧ w.cell? ⟨(ad.add (i * 5)).block, (ad.add (i * 5)).off + 2, none⟩ = some q.t ∧
      w.cell? ⟨(ad.add (i * 5)).block, (ad.add (i * 5)).off + 3, none⟩ = some q.n ∧ w.cell? ⟨(ad.add (i * 5)).block, (ad.add (i * 5)).off + 4, none⟩ = some q.a ∧ HdIs w S h q := by
  have hlt := (List.getElem?_eq_some_iff.1 hi).1
  have hp : qs[i]? = some (qs[i]'(by rw [H.len]; exact hlt)) := List.getElem?_eq_getElem _
  obtain ⟨e0, e1, e2, e3, e4⟩ := flat5_at _ _ _ hp
  obtain ⟨ad, rfl, hS, c0⟩ := H.row.at_ e0
  obtain ⟨_, h', _, c1⟩ := H.row.at_ e1
  obtain rfl := Option.some.inj h'
  obtain ⟨_, h', _, c2⟩ := H.row.at_ e2
  obtain rfl := Option.some.inj h'
  obtain ⟨_, h', _, c3⟩ := H.row.at_ e3
  obtain rfl := Option.some.inj h'
  obtain ⟨_, h', _, c4⟩ := H.row.at_ e4
  obtain rfl := Option.some.inj h'
  rw [← addAdd] at c1 c2 c3 c4
  exact ⟨ad, _, rfl, hS, hp, c0, c1, c2, c3, c4, H.each i h _ hi hp⟩

def selOf : List Hdr → Ty → Nat → Option (Nat × List Ty)
  | [], _, _ => none
  | h :: r, t, k => match argsOf h t with
    | some a => some (k, a)
    | none => selOf r t (k + 1)

def SelYes (k : Nat) (ts : List Ty) (w : World) (e : Ending) (w' : World) : Prop :=
  ∃ (A : Option Addr) (n c : Nat) (vs : List (Value × Value)), e = .returned (.tuple #[.int .i64 (k : Int), .slice A n c, .bool true]) ∧ n = ts.length ∧ Tys w' (Fr w.heap.size w'.heap.size) A ts vs ∧ Below w.heap.size w w'
def SelRes (r : Option (Nat × List Ty)) (w : World) (e : Ending) (w' : World) : Prop :=
  match r with
  | some (k, ts) => SelYes k ts w e w'
  | none => Nope (.tuple #[.int .i64 (-1), .slice none 0 0, .bool false]) w e w'

set_option maxHeartbeats 2000000 in
theorem select_any (hs : List Hdr) (t : Ty) (A : Option Addr) (c : Nat) (qs : List HV) (u v : Value) (w : World) (hh : Hds w (Lt w.heap.size) A hs qs) (ht : TyIs w (Lt w.heap.size) t u v) :
    Calls Try.prog 10 #[.slice A hs.length c, .agg #[u, v]] w (SelRes (selOf hs t 0) w) := by
  obtain ⟨u, v, rfl, rfl⟩ := ht.shape
  have hfew := hh.few
  obtain ⟨n, hn⟩ : ∃ n, n = hs.length := ⟨_, rfl⟩
  rw [← hn] at hfew ⊢
  have HN := Lib.hid hn
  clear hn
  go_enter Try.func10, Try.ntmps10
  go_wp2_with fail
  go_loopw [13] (fun i wr => ∃ k : Nat, k ≤ n ∧ i = .int .i64 k ∧ selOf (hs.drop k) t k = selOf hs t 0 ∧ wr.heap[w.heap.size]? = some (.cells #[sv u, .slice v.1 v.2.1 v.2.2] 26 (0, 0)) ∧ Below w.heap.size w wr) (fun i _ => n - (intOf i).toNat)
  case atStart => exact ⟨0, Nat.zero_le _, rfl, rfl, alloc1 _ _, (Below.refl _ _).alloc (Nat.le_refl _) _⟩
  case round =>
    obtain ⟨k, hk, rfl, hx, hB, hb⟩ := hrel
    have HX := Lib.hid hx
    have t0 : wr.cell? ⟨w.heap.size, 0, none⟩ = some (sv u) := by rw [Lib.cell_of_heap hB]; rfl
    have t1 : wr.cell? ⟨w.heap.size, 1, none⟩ = some (.slice v.1 v.2.1 v.2.2) := by rw [Lib.cell_of_heap hB]; rfl
    have hlw := lt_of_heap hB
    have HB := Lib.hid hB
    clear hx hB
    by_cases hlt : k < n
    · have hki : k < hs.length := by rw [← HN.out]; exact hlt
      have hgk : hs[k]? = some hs[k] := List.getElem?_eq_getElem hki
      have hhr := hh.now (Nat.le_refl _) hb
      obtain ⟨ad, q, rfl, hS, _, e0, e1, e2, e3, e4, hHd⟩ := hhr.at_ hgk
      have hsm := hh.small _ (List.getElem_mem hki)
      obtain ⟨s, P, m, a, rfl⟩ := hHd.shape
      have htr := ht.now (Nat.le_refl _) hb
      have HD := Lib.hid (List.drop_eq_getElem_cons hki)
      dsimp only at e0 e1 e2 e3 e4
      clear hhr hgk
      have hba : Below wr.heap.size wr (wr.alloc (.cells #[sv s, .slice P.1 P.2.1 P.2.2, sv hs[k].trait, sv m, .slice a.1 a.2.1 a.2.2] 37)) := (Below.refl _ _).alloc (Nat.le_refl _) _
      have har := arguments_any hs[k] t _ _ _ _ (hHd.now (Nat.le_refl _) hba) (htr.now (Nat.le_refl _) hba) hsm
      unfold HV.val at har
      dsimp only at har
      have HAR := Lib.hid har
      clear har
      go_wp2_with fail
      rcases hr : argsOf hs[k] t with _ | ts
      · have har := HAR.out
        rw [hr] at har
        refine har.mono ?_
        rintro e w1 ⟨rfl, hb1⟩
        have HR := Lib.hid hr
        clear hr har HAR
        have hb3 : Below w.heap.size w w1 := hb.trans ((hba.trans (hb1.mono (by simp))).mono hb.size)
        have hB3 : w1.heap[w.heap.size]? = some (.cells #[sv u, .slice v.1 v.2.1 v.2.2] 26 (0, 0)) := ((hba.trans (hb1.mono (by simp))).block _ hlw).trans HB.out
        have HB3 := Lib.hid hB3
        clear hB3
        go_wp2_with fail
        go_roundw
        case rel => exact ⟨k + 1, by omega, by go_num, by rw [← HX.out, HD.out, selOf, HR.out], HB3.out, hb3⟩
        case measure => simp [intOf]; omega
      · have har := HAR.out
        rw [hr] at har
        refine har.mono ?_
        rintro e w1 ⟨A2, n2, c2, vs, rfl, hn2, hT, hb1⟩
        have HR := Lib.hid hr
        have HN2 := Lib.hid hn2
        clear hr har HAR hn2
        have hb3 : Below w.heap.size w w1 := hb.trans ((hba.trans (hb1.mono (by simp))).mono hb.size)
        have hres : selOf hs t 0 = some (k, ts) := by rw [← HX.out, HD.out, selOf, HR.out]
        have HRES := Lib.hid hres
        clear hres
        go_wp2_with fail
        refine bodyPost_ret (v := .tuple #[.int .i64 (k : Int), .slice A2 n2 c2, .bool true]) (by simp [results, Try.results10, go_sem]) rfl ?_
        rw [HRES.out]
        exact ⟨A2, n2, c2, vs, rfl, HN2.out, hT.more fun y hy => ⟨by have := hy.1; simp at this; have := hb.size; omega, hy.2⟩, hb3⟩
    · have hkn : k = n := by omega
      have HKN := Lib.hid hkn
      have hg : ¬ k < n := hlt
      clear hkn
      go_wp2_with fail
      refine bodyPost_ret (v := .tuple #[.int .i64 (-1), .slice none 0 0, .bool false]) (by simp [results, Try.results10, go_sem]) rfl ?_
      rw [← HX.out, List.drop_eq_nil_of_le (by rw [← HN.out, HKN.out]; exact Nat.le_refl _)]
      exact ⟨rfl, hb⟩
end Go.Proofs.Ytkoddmgbpjmohaa
