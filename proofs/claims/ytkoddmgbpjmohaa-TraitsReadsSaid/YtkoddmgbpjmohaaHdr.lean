/-
  Headers and goals in memory, and a row of types that is being filled.
  Conditions: those of each theorem.
-/
import Derived.Test.YtkoddmgbpjmohaaMatchE
namespace Go.Proofs.Ytkoddmgbpjmohaa
open Go.RowKit

/-- A header: its parameters (name and bound), its trait, its type. -/
structure Hdr where
  params : List (List UInt8 × List UInt8)
  trait : List UInt8
  type : Ty

/-- A header's five cells. -/
structure HV where
  d : Value
  p : Value
  t : Value
  n : Value
  a : Value
def HV.cells (q : HV) : List Value := [q.d, q.p, q.t, q.n, q.a]
def HV.val (q : HV) : Value := .agg #[q.d, q.p, q.t, q.n, q.a]

def pairV (p : List UInt8 × List UInt8) : Value × Value := (sv p.1, sv p.2)

structure HdIs (w : World) (S : Nat → Prop) (h : Hdr) (q : HV) : Prop where
  d : ∃ s, q.d = sv s
  p : ∃ (A : Option Addr) (c : Nat), q.p = .slice A h.params.length c ∧ h.params.length ≤ c ∧ c ≤ maxLen ∧ Row w S A (flat2 (h.params.map pairV))
  t : q.t = sv h.trait
  ty : TyIs w S h.type q.n q.a
  few : h.params.length ≤ 1000

theorem HdIs.keep {w w' : World} {S : Nat → Prop} {h : Hdr} {q : HV} (H : HdIs w S h q) (hk : Kept S w w') : HdIs w' S h q := by
  obtain ⟨A, c, h1, h2, h3, h4⟩ := H.p
  exact ⟨H.d, ⟨A, c, h1, h2, h3, h4.keep hk⟩, H.t, H.ty.keep hk, H.few⟩
theorem HdIs.more {w : World} {S S' : Nat → Prop} {h : Hdr} {q : HV} (H : HdIs w S h q) (hS : ∀ b, S b → S' b) : HdIs w S' h q := by
  obtain ⟨A, c, h1, h2, h3, h4⟩ := H.p
  exact ⟨H.d, ⟨A, c, h1, h2, h3, h4.more hS⟩, H.t, H.ty.more hS, H.few⟩
theorem HdIs.now {w w' : World} {n : Nat} {h : Hdr} {q : HV} (H : HdIs w (Lt n) h q) (hn : n ≤ w.heap.size) (hb : Below w.heap.size w w') : HdIs w' (Lt w'.heap.size) h q :=
  (H.keep (kept_below (hb.mono hn))).more fun _ h => Nat.lt_of_lt_of_le h (Nat.le_trans hn hb.size)
theorem HdIs.shape {w : World} {S : Nat → Prop} {h : Hdr} {q : HV} (H : HdIs w S h q) : ∃ (s : List UInt8) (P : Option Addr × Nat × Nat) (m : List UInt8) (a : Option Addr × Nat × Nat), q = ⟨sv s, .slice P.1 P.2.1 P.2.2, sv h.trait, sv m, .slice a.1 a.2.1 a.2.2⟩ := by
  obtain ⟨s, hs⟩ := H.d
  obtain ⟨A, c, h1, _⟩ := H.p
  obtain ⟨m, a, hm, ha⟩ := H.ty.shape
  have ht := H.t
  obtain ⟨q1, q2, q3, q4, q5⟩ := q
  simp only at hs h1 ht hm ha
  subst hs h1 ht hm ha
  exact ⟨s, (A, h.params.length, c), m, a, rfl⟩

theorem unflat2 : ∀ (n : Nat) (xs : List Value), xs.length = n * 2 → ∃ vs : List (Value × Value), vs.length = n ∧ flat2 vs = xs
  | 0, xs, h => ⟨[], rfl, by have : xs = [] := List.eq_nil_of_length_eq_zero (by simpa using h); rw [this]; rfl⟩
  | n + 1, [], h => by simp at h
  | n + 1, [a], h => by simp at h; omega
  | n + 1, a :: b :: r, h => by
    obtain ⟨vs, h1, h2⟩ := unflat2 n r (by simp at h; omega)
    exact ⟨(a, b) :: vs, by simp [h1], by rw [← h2]; rfl⟩
theorem flat2_setAt : ∀ (k : Nat) (vs : List (Value × Value)) (u v : Value), k < vs.length → ((flat2 vs).set (k * 2) u).set (k * 2 + 1) v = flat2 (vs.set k (u, v))
  | _, [], _, _, h => by simp at h
  | 0, a :: r, u, v, _ => rfl
  | k + 1, a :: r, u, v, h => by
    have := flat2_setAt k r u v (by simpa using h)
    have e1 : (k + 1) * 2 = k * 2 + 2 := by omega
    have e2 : (k + 1) * 2 + 1 = (k * 2 + 1) + 2 := by omega
    rw [e2, e1]
    simp only [flat2, List.flatMap_cons, List.cons_append, List.nil_append, List.set_cons_succ] at this ⊢
    rw [this]

/-- A row of n types at block g of which the first ones are those of ts. -/
structure Fill (g n base : Nat) (ts : List Ty) (vs : List (Value × Value)) (w : World) : Prop where
  own : w.ownsRow base 26 2 (.slice (some ⟨g, 0, none⟩) n n) n (flat2 vs)
  len : vs.length = n
  short : ts.length ≤ n
  each : ∀ (i : Nat) (t : Ty) (p : Value × Value), ts[i]? = some t → vs[i]? = some p → TyIs w (fun x => base ≤ x ∧ x < w.heap.size ∧ x ≠ g) t p.1 p.2

theorem Fill.kept {g n base : Nat} {ts : List Ty} {vs : List (Value × Value)} {w w' : World} (h : Fill g n base ts vs w) (hb : Below w.heap.size w w') : Fill g n base ts vs w' :=
  ⟨h.own.kept (grownOfBelow hb) (ownNone _), h.len, h.short, fun i t p ht hp => ((h.each i t p ht hp).keep (keptGrown (grownOfBelow hb) fun x hx => ⟨hx.2.1, by simp⟩)).more fun x hx => ⟨hx.1, Nat.lt_of_lt_of_le hx.2.1 hb.size, hx.2.2⟩⟩

theorem Fill.set {g n base k : Nat} {ts : List Ty} {vs : List (Value × Value)} {w : World} {t : Ty} {u v : Value} (h : Fill g n base (ts.take k) vs w) (hk : k < n) (hkt : ts[k]? = some t) (ht : TyIs w (fun x => base ≤ x ∧ x < w.heap.size ∧ x ≠ g) t u v) :
    Fill g n base (ts.take (k + 1)) (vs.set k (u, v)) ((w.setCell ⟨g, k * 2, none⟩ u).setCell ⟨g, k * 2 + 1, none⟩ v) := by
  have h1 := h.own.stored (k * 2) u
  have h2 := h1.1.stored (k * 2 + 1) v
  have hl := h.len
  have hx := h2.1
  rw [flat2_setAt k vs u v (by omega)] at hx
  have hkt2 : k < ts.length := (List.getElem?_eq_some_iff.1 hkt).1
  have hK : Kept (fun x => base ≤ x ∧ x < w.heap.size ∧ x ≠ g) w ((w.setCell ⟨g, k * 2, none⟩ u).setCell ⟨g, k * 2 + 1, none⟩ v) :=
    Kept.trans (keptGrown h1.2 fun x hx => ⟨hx.2.1, fun e => hx.2.2 (Option.some.inj e)⟩) (keptGrown h2.2 fun x hx => ⟨by rw [sizeSet]; exact hx.2.1, fun e => hx.2.2 (Option.some.inj e)⟩)
  refine ⟨hx, by simp [hl], by rw [List.length_take]; omega, fun i t' p ht' hp => ?_⟩
  refine TyIs.more (S := fun x => base ≤ x ∧ x < w.heap.size ∧ x ≠ g) (TyIs.keep (w := w) ?_ hK) fun x hx => ⟨hx.1, by rw [sizeSet, sizeSet]; exact hx.2.1, hx.2.2⟩
  have hi : i < k + 1 := by
    have := (List.getElem?_eq_some_iff.1 ht').1
    rw [List.length_take] at this
    omega
  rw [List.getElem?_take_of_lt hi] at ht'
  rcases Nat.lt_or_ge i k with hik | hik
  · rw [List.getElem?_set_ne (by omega)] at hp
    exact h.each i t' p (by rw [List.getElem?_take_of_lt hik]; exact ht') hp
  · obtain rfl : i = k := by omega
    rw [hkt] at ht'
    rw [List.getElem?_set_self (by omega)] at hp
    cases ht'
    cases hp
    exact ht
theorem Fill.push {g n base : Nat} {ts : List Ty} {vs : List (Value × Value)} {w : World} {t : Ty} {u v : Value} (h : Fill g n base ts vs w) (hk : ts.length < n) (ht : TyIs w (fun x => base ≤ x ∧ x < w.heap.size ∧ x ≠ g) t u v) :
    Fill g n base (ts ++ [t]) (vs.set ts.length (u, v)) ((w.setCell ⟨g, ts.length * 2, none⟩ u).setCell ⟨g, ts.length * 2 + 1, none⟩ v) := by
  have h1 : Fill g n base ((ts ++ [t]).take ts.length) vs w := by rw [List.take_left]; exact h
  have h2 := h1.set hk (by simp) ht
  rw [List.take_of_length_le (by simp)] at h2
  exact h2
theorem Fill.pop {g n base : Nat} {ts : List Ty} {vs : List (Value × Value)} {w : World} {t : Ty} (h : Fill g n base (ts ++ [t]) vs w) : Fill g n base ts vs w :=
  ⟨h.own, h.len, by have := h.short; simp at this; omega, fun i t' p ht hp => h.each i t' p (by rw [List.getElem?_append_left (List.getElem?_eq_some_iff.1 ht).1]; exact ht) hp⟩
theorem Fill.done {g n base : Nat} {ts : List Ty} {vs : List (Value × Value)} {w : World} (h : Fill g n base ts vs w) (hn : ts.length = n) : Tys w (Fr base w.heap.size) (some ⟨g, 0, none⟩) ts vs :=
  ⟨by rw [h.len, hn], Row.ofOwn h.own fun _ _ h1 h2 => ⟨h1, h2⟩, fun i t p ht hp => (h.each i t p ht hp).more fun _ hx => ⟨hx.1, hx.2.1⟩⟩
end Go.Proofs.Ytkoddmgbpjmohaa
