/-
  The plain law of ref05.Update: what its loops leave.
  No condition beyond those of each theorem.
-/
import Derived.Test.YtmnhgkhidepojaaIdUP
import Derived.Test.YtmnhgkhidepojaaIdC
namespace Go.Proofs.Ytmnhgkhidepojaa
open Go.RowKit

section
variable {α : Type}
/-- The first k of a, then b. -/
def splice (a b : List α) (k : Nat) : List α := a.take k ++ b.drop k
theorem splice_zero (a b : List α) : splice a b 0 = b := by simp [splice]
theorem splice_end {a b : List α} {k : Nat} (h1 : a.length ≤ k) (h2 : b.length ≤ k) : splice a b k = a := by
  rw [splice, List.take_of_length_le h1, List.drop_eq_nil_of_le h2, List.append_nil]
theorem splice_len {a b : List α} {k : Nat} (h : a.length = b.length) (hk : k ≤ b.length) : (splice a b k).length = b.length := by
  simp only [splice, List.length_append, List.length_take, List.length_drop]
  omega
theorem splice_at {a b : List α} {k : Nat} {v : α} (hk : k ≤ a.length) (hv : b[k]? = some v) : (splice a b k)[k]? = some v := by
  have hl : (a.take k).length = k := by rw [List.length_take]; omega
  rw [splice, List.getElem?_append_right (by omega), hl, Nat.sub_self, List.getElem?_drop, Nat.add_zero]
  exact hv
theorem splice_set {a b : List α} {k : Nat} {v : α} (hv : a[k]? = some v) (hk : k < b.length) : (splice a b k).set k v = splice a b (k + 1) := by
  have h1 := (List.getElem?_eq_some_iff.1 hv).1
  have hl : (a.take k).length = k := by rw [List.length_take]; omega
  rw [splice, splice, List.set_append_right _ _ (by omega), hl, Nat.sub_self, List.drop_eq_getElem_cons hk, List.set_cons_zero, List.take_add_one, hv, List.append_assoc]
  rfl
theorem splice_same {a b : List α} {k : Nat} {v : α} (ha : a[k]? = some v) (hb : b[k]? = some v) : splice a b (k + 1) = splice a b k := by
  have hk := (List.getElem?_eq_some_iff.1 hb).1
  rw [← splice_set ha hk]
  have h1 := (List.getElem?_eq_some_iff.1 ha).1
  have hl : (a.take k).length = k := by rw [List.length_take]; omega
  have e : b[k] = v := by rw [List.getElem?_eq_getElem hk] at hb; exact Option.some.inj hb
  rw [splice, List.set_append_right _ _ (by omega), hl, Nat.sub_self, List.drop_eq_getElem_cons hk, List.set_cons_zero, e]
end

theorem ids0_len (xs : List Idn) (l : List It) : (ids0 xs l).length = l.length := by simp [ids0]
theorem ids0_at {xs : List Idn} {l : List It} {k : Nat} {z : It} (hz : l[k]? = some z) : (ids0 xs l)[k]? = some (idOf xs z.key) := by
  rw [ids0, List.getElem?_map, hz]
  rfl
theorem take_keys {n : Int} {xs : List Idn} (hc : Chk n xs) {i : Nat} {y : Idn} (hy : xs[i]? = some y) : ∀ z ∈ xs.take i, z.key ≠ y.key := fun z hz => by
  have h := hc.2.2.2.2
  have h2 : (xs.take i ++ [y]).Pairwise fun a b => a.key ≠ b.key := by
    have : xs.take (i + 1) = xs.take i ++ [y] := by rw [List.take_add_one, hy]; rfl
    rw [← this]
    exact h.sublist (List.take_sublist _ _)
  exact (List.pairwise_append.1 h2).2.2 z hz y (by simp)
theorem idOf_snoc {n : Int} {xs : List Idn} (hc : Chk n xs) {i : Nat} {y : Idn} (hy : xs[i]? = some y) (k : Key) : idOf (xs.take (i + 1)) k = if k = y.key then y.id else idOf (xs.take i) k := by
  have : xs.take (i + 1) = xs.take i ++ [y] := by rw [List.take_add_one, hy]; rfl
  rw [this, idOf_eq, idO_snoc (take_keys hc hy)]
  split
  · rfl
  · rfl

/-- The row of numbers after i identities and k items. -/
def mixI (xs : List Idn) (l : List It) (i k : Nat) : List Int := splice (ids0 (xs.take (i + 1)) l) (ids0 (xs.take i) l) k
theorem mixI_zero (xs : List Idn) (l : List It) (i : Nat) : mixI xs l i 0 = ids0 (xs.take i) l := splice_zero _ _
theorem mixI_end (xs : List Idn) (l : List It) (i : Nat) : mixI xs l i l.length = ids0 (xs.take (i + 1)) l := splice_end (by rw [ids0_len]; omega) (by rw [ids0_len]; omega)
theorem mixI_len {xs : List Idn} {l : List It} {i k : Nat} (h : k ≤ l.length) : (mixI xs l i k).length = l.length := by
  rw [mixI, splice_len (by rw [ids0_len, ids0_len]) (by rw [ids0_len]; omega), ids0_len]
theorem mixI_set {n : Int} {xs : List Idn} (hc : Chk n xs) {l : List It} {i k : Nat} {y : Idn} {z : It} (hy : xs[i]? = some y) (hz : l[k]? = some z) (h : z.key = y.key) : (mixI xs l i k).set k y.id = mixI xs l i (k + 1) := by
  have hk := (List.getElem?_eq_some_iff.1 hz).1
  refine splice_set ?_ (by rw [ids0_len]; exact hk)
  rw [ids0_at hz, idOf_snoc hc hy, if_pos h]
theorem mixI_skip {n : Int} {xs : List Idn} (hc : Chk n xs) {l : List It} {i k : Nat} {y : Idn} {z : It} (hy : xs[i]? = some y) (hz : l[k]? = some z) (h : z.key ≠ y.key) : mixI xs l i (k + 1) = mixI xs l i k := by
  refine splice_same (v := idOf (xs.take i) z.key) ?_ (ids0_at hz)
  rw [ids0_at hz, idOf_snoc hc hy, if_neg h]

/-- The numbers that pairs give: 0 where a number is known. -/
def prd (xs : List Idn) (l : List It) : List Int := l.map fun z => if idOf xs z.key = 0 then pid xs l z.sh else 0
theorem prd_at {xs : List Idn} {l : List It} {k : Nat} {z : It} (hz : l[k]? = some z) : (prd xs l)[k]? = some (if idOf xs z.key = 0 then pid xs l z.sh else 0) := by
  rw [prd, List.getElem?_map, hz]
  rfl
theorem prd_len (xs : List Idn) (l : List It) : (prd xs l).length = l.length := by simp [prd]
/-- The old ones of a shape among the first j that are left. -/
def oldJ (R : List Idn) (s : List UInt8) (j : Nat) : List Idn := (R.take j).filter fun y => decide (y.it.sh = s)
theorem oldJ_snoc {R : List Idn} {s : List UInt8} {j : Nat} {y : Idn} (hy : R[j]? = some y) : oldJ R s (j + 1) = oldJ R s j ++ if y.it.sh = s then [y] else [] := by
  rw [oldJ, List.take_add_one, hy, List.filter_append]
  congr 1
  by_cases h : y.it.sh = s <;> simp [h]
def newJ (xs : List Idn) (l : List It) (s : List UInt8) (j : Nat) : Nat := (l.take j).countP fun y => decide (idOf xs y.key = 0 ∧ y.sh = s)
theorem newJ_snoc {xs : List Idn} {l : List It} {s : List UInt8} {j : Nat} {y : It} (hy : l[j]? = some y) : newJ xs l s (j + 1) = newJ xs l s j + if idOf xs y.key = 0 ∧ y.sh = s then 1 else 0 := by
  rw [newJ, List.take_add_one, hy, List.countP_append]
  congr 1
  by_cases h : idOf xs y.key = 0 ∧ y.sh = s <;> simp [h]
theorem newJ_le (xs : List Idn) (l : List It) (s : List UInt8) (j : Nat) : newJ xs l s j ≤ j := by
  refine Nat.le_trans List.countP_le_length ?_
  rw [List.length_take]
  omega
theorem oldJ_le (R : List Idn) (s : List UInt8) (j : Nat) : (oldJ R s j).length ≤ j := by
  refine Nat.le_trans (List.length_filter_le _ _) ?_
  rw [List.length_take]
  omega
theorem pid_of {xs : List Idn} {l : List It} {s : List UInt8} : pid xs l s = if (oldJ (left xs l) s (left xs l).length).length = 1 ∧ newJ xs l s l.length = 1 then lastId (oldJ (left xs l) s (left xs l).length) else 0 := by
  have e1 : oldJ (left xs l) s (left xs l).length = olds xs l s := by rw [oldJ, List.take_length]; rfl
  have e2 : newJ xs l s l.length = news xs l s := by rw [newJ, List.take_length]; rfl
  rw [e1, e2]
  unfold pid
  cases h : olds xs l s with
  | nil => simp
  | cons a r =>
    cases r with
    | nil => simp [lastId]
    | cons b t => simp

theorem ids1_of {xs : List Idn} {l : List It} {k : Nat} {z : It} (hz : l[k]? = some z) : (ids1 xs l)[k]? = some (if idOf xs z.key = 0 then pid xs l z.sh else idOf xs z.key) := by
  rw [ids1, List.getElem?_map, hz]
  rfl
theorem ids2_of {n : Int} {xs : List Idn} {l : List It} {k : Nat} {a : Int} (h : (ids1 xs l)[k]? = some a) : (ids2 n xs l)[k]? = some (if a = 0 then n + zeros ((ids1 xs l).take k) else a) := numb_at h
theorem zeros_step {is : List Int} {k : Nat} {a : Int} (h : is[k]? = some a) : zeros (is.take (k + 1)) = zeros (is.take k) + if a = 0 then 1 else 0 := by
  rw [List.take_add_one, h]
  exact zeros_snoc _ _

/-- One more in its place. -/
theorem ins_sorted {ys : List Idn} {y : Idn} {k : Nat} (hs : ys.Pairwise fun a b => a.id ≤ b.id) (h1 : ∀ a ∈ ys.drop k, y.id < a.id) (h2 : k = 0 ∨ ∃ z, ys[k - 1]? = some z ∧ z.id ≤ y.id) : (ys.take k ++ y :: ys.drop k).Pairwise fun a b => a.id ≤ b.id := by
  have hb : ∀ a ∈ ys.take k, a.id ≤ y.id := by
    rcases h2 with rfl | ⟨z, hz, hzy⟩
    · intro a ha
      simp at ha
    · intro a ha
      obtain ⟨i, hi⟩ := List.mem_iff_getElem?.1 ha
      have hik : i < k := by
        have := (List.getElem?_eq_some_iff.1 hi).1
        rw [List.length_take] at this
        omega
      rw [List.getElem?_take_of_lt hik] at hi
      obtain ⟨p1, e1⟩ := List.getElem?_eq_some_iff.1 hi
      obtain ⟨p2, e2⟩ := List.getElem?_eq_some_iff.1 hz
      by_cases he : i = k - 1
      · subst he
        rw [hi] at hz
        cases hz
        exact hzy
      · have := List.pairwise_iff_getElem.1 hs i (k - 1) p1 p2 (by omega)
        rw [e1, e2] at this
        omega
  refine List.pairwise_append.2 ⟨hs.sublist (List.take_sublist _ _), List.pairwise_cons.2 ⟨fun a ha => by have := h1 a ha; omega, hs.sublist (List.drop_sublist _ _)⟩, fun a ha b hb' => ?_⟩
  rcases List.mem_cons.1 hb' with rfl | hb'
  · exact hb a ha
  · have := h1 b hb'
    have := hb a ha
    omega
theorem ins_perm {ys zs : List Idn} {y : Idn} (k : Nat) (h : ys.Perm zs) : (ys.take k ++ y :: ys.drop k).Perm (zs ++ [y]) := by
  have h1 : (ys.take k ++ y :: ys.drop k).Perm (y :: (ys.take k ++ ys.drop k)) := List.perm_middle
  rw [List.take_append_drop] at h1
  exact h1.trans ((h.cons y).trans (List.perm_append_singleton y zs).symm)
end Go.Proofs.Ytmnhgkhidepojaa
