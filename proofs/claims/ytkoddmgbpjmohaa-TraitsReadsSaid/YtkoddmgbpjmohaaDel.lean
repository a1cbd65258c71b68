/-
  A row of headers out of which some are struck in place, and the builtin clear on its rest.
  Conditions: those of each theorem.
-/
import Derived.Test.YtkoddmgbpjmohaaPut
namespace Go.Proofs.Ytkoddmgbpjmohaa
open Go.RowKit

theorem flat5_setAt : ∀ (k : Nat) (qs : List HV) (q : HV), k < qs.length → ((((((flat5 qs).set (k * 5) q.d).set (k * 5 + 1) q.p).set (k * 5 + 2) q.t).set (k * 5 + 3) q.n).set (k * 5 + 4) q.a) = flat5 (qs.set k q)
  | _, [], _, h => by simp at h
  | 0, a :: r, q, _ => rfl
  | k + 1, a :: r, q, h => by
    have := flat5_setAt k r q (by simpa using h)
    have e0 : (k + 1) * 5 = k * 5 + 5 := by omega
    have e1 : k * 5 + 5 + 1 = k * 5 + 1 + 5 := by omega
    have e2 : k * 5 + 5 + 2 = k * 5 + 2 + 5 := by omega
    have e3 : k * 5 + 5 + 3 = k * 5 + 3 + 5 := by omega
    have e4 : k * 5 + 5 + 4 = k * 5 + 4 + 5 := by omega
    rw [e0, e1, e2, e3, e4]
    simp only [flat5, HV.cells, List.flatMap_cons, List.cons_append, List.nil_append, List.set_cons_succ] at this ⊢
    rw [this]

/-- The world behind the store of a header at place k of the row g. -/
def putH (w : World) (g k : Nat) (q : HV) : World :=
  ((((w.setCell ⟨g, k * 5, none⟩ q.d).setCell ⟨g, k * 5 + 1, none⟩ q.p).setCell ⟨g, k * 5 + 2, none⟩ q.t).setCell ⟨g, k * 5 + 3, none⟩ q.n).setCell ⟨g, k * 5 + 4, none⟩ q.a

theorem grownAgain {w w1 w2 : World} {g : Nat} (h : w.grownBy w1 (some g)) (h' : w1.grownBy w2 (some g)) : w.grownBy w2 (some g) :=
  ⟨h'.os.trans h.os, h'.tape.trans h.tape, h'.output.trans h.output, Nat.le_trans h.size h'.size, fun y hy hne => (h'.block y (Nat.lt_of_lt_of_le hy h.size) hne).trans (h.block y hy hne)⟩
theorem putH_grown (w : World) (g k : Nat) (q : HV) : w.grownBy (putH w g k q) (some g) := by
  unfold putH
  exact grownAgain (grownAgain (grownAgain (grownAgain grownSet grownSet) grownSet) grownSet) grownSet

theorem putH_own {w : World} {base g n c k : Nat} {qs : List HV} {q : HV} (h : w.ownsRow base 37 5 (.slice (some ⟨g, 0, none⟩) n c) n (flat5 qs)) (hl : qs.length = n) (hk : k < n) :
    (putH w g k q).ownsRow base 37 5 (.slice (some ⟨g, 0, none⟩) n c) n (flat5 (qs.set k q)) := by
  rw [← flat5_setAt k qs q (by omega)]
  unfold putH
  generalize flat5 qs = xs at h
  exact (((((h.stored (k * 5) q.d).1.stored (k * 5 + 1) q.p).1.stored (k * 5 + 2) q.t).1.stored (k * 5 + 3) q.n).1.stored (k * 5 + 4) q.a).1

/-- Headers with their values, of those that are left. -/
def left (tr : List UInt8) (l : List (Hdr × HV)) : List (Hdr × HV) := l.filter fun x => decide (x.1.trait = tr)

/-- The row of n headers at block g: the first j have been looked at, those that are left stand in front. -/
structure DelAt (g n c base j : Nat) (tr : List UInt8) (l : List (Hdr × HV)) (qs : List HV) (w : World) : Prop where
  own : w.ownsRow base 37 5 (.slice (some ⟨g, 0, none⟩) n c) n (flat5 qs)
  len : qs.length = n
  src : l.length = n
  front : qs.take (left tr (l.take j)).length = (left tr (l.take j)).map (·.2)
  back : qs.drop j = (l.drop j).map (·.2)

theorem left_le (tr : List UInt8) (l : List (Hdr × HV)) (j : Nat) (hj : j ≤ l.length) : (left tr (l.take j)).length ≤ j := by
  have := List.length_filter_le (fun x : Hdr × HV => decide (x.1.trait = tr)) (l.take j)
  rw [List.length_take] at this
  unfold left
  omega

theorem DelAt.at_ {g n c base j : Nat} {tr : List UInt8} {l : List (Hdr × HV)} {qs : List HV} {w : World} (h : DelAt g n c base j tr l qs w) (hj : j < n) : qs[j]? = some (l[j]'(by rw [h.src]; exact hj)).2 := by
  have e := congrArg (fun x : List HV => x[0]?) h.back
  simp only [List.getElem?_drop, Nat.add_zero, List.getElem?_map] at e
  rw [e, List.getElem?_eq_getElem (by rw [h.src]; exact hj)]
  rfl

theorem DelAt.skip {g n c base j : Nat} {tr : List UInt8} {l : List (Hdr × HV)} {qs : List HV} {w : World} (h : DelAt g n c base j tr l qs w) (hj : j < n) (hne : ¬ (l[j]'(by rw [h.src]; exact hj)).1.trait = tr) : DelAt g n c base (j + 1) tr l qs w := by
  have hjl : j < l.length := by rw [h.src]; exact hj
  have e : left tr (l.take (j + 1)) = left tr (l.take j) := by
    unfold left
    rw [List.take_succ_eq_append_getElem hjl, List.filter_append]
    simp [hne]
  refine ⟨h.own, h.len, h.src, by rw [e]; exact h.front, ?_⟩
  have := congrArg (List.drop 1) h.back
  rwa [List.drop_drop, ← List.map_drop, List.drop_drop] at this

theorem DelAt.take {g n c base j : Nat} {tr : List UInt8} {l : List (Hdr × HV)} {qs : List HV} {w : World} (h : DelAt g n c base j tr l qs w) (hj : j < n) (heq : (l[j]'(by rw [h.src]; exact hj)).1.trait = tr) :
    DelAt g n c base (j + 1) tr l (qs.set (left tr (l.take j)).length (l[j]'(by rw [h.src]; exact hj)).2) (putH w g (left tr (l.take j)).length (l[j]'(by rw [h.src]; exact hj)).2) := by
  have hjl : j < l.length := by rw [h.src]; exact hj
  have hle := left_le tr l j (by omega)
  have e : left tr (l.take (j + 1)) = left tr (l.take j) ++ [l[j]] := by
    unfold left
    rw [List.take_succ_eq_append_getElem hjl, List.filter_append]
    simp [heq]
  refine ⟨putH_own h.own h.len (by omega), by simp [h.len], h.src, ?_, ?_⟩
  · rw [e, List.length_append, List.map_append, List.length_singleton, List.take_succ_eq_append_getElem (by simp [h.len]; omega), List.take_set_of_le (Nat.le_refl _), h.front]
    simp
  · rw [List.drop_set_of_lt (by omega)]
    have := congrArg (List.drop 1) h.back
    rwa [List.drop_drop, ← List.map_drop, List.drop_drop] at this
end Go.Proofs.Ytkoddmgbpjmohaa
