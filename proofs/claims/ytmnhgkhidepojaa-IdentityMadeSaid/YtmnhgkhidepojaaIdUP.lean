/-
  identity.Update, the plain part: the known numbers, the numbers that are given.
  No condition beyond those of each theorem.
-/
import Derived.Test.YtmnhgkhidepojaaIdFP
namespace Go.Proofs.Ytmnhgkhidepojaa
open Go.RowKit

def idO (xs : List Idn) (k : Key) : Option Int := (xs.find? fun y => decide (y.key = k)).map (·.id)
theorem idOf_eq (xs : List Idn) (k : Key) : idOf xs k = (idO xs k).getD 0 := rfl
theorem idO_nil (k : Key) : idO [] k = none := rfl
theorem idO_snoc {xs : List Idn} {y : Idn} (h : ∀ z ∈ xs, z.key ≠ y.key) (k : Key) : idO (xs ++ [y]) k = if k = y.key then some y.id else idO xs k := by
  unfold idO
  rw [List.find?_append]
  by_cases e : k = y.key
  · subst e
    rw [if_pos rfl, List.find?_eq_none.2 fun z hz => by simpa using h z hz]
    simp
  · rw [if_neg e]
    have : List.find? (fun z => decide (z.key = k)) [y] = none := by simp [Ne.symm e]
    rw [this]
    cases List.find? (fun z => decide (z.key = k)) xs <;> rfl
theorem idO_some {xs : List Idn} {k : Key} {i : Int} (h : idO xs k = some i) : ∃ y ∈ xs, y.key = k ∧ y.id = i := by
  unfold idO at h
  obtain ⟨y, hy, rfl⟩ := Option.map_eq_some_iff.1 h
  exact ⟨y, List.mem_of_find?_eq_some hy, by simpa using List.find?_some hy, rfl⟩
theorem idO_mem {xs : List Idn} (hn : xs.Pairwise fun a b => a.key ≠ b.key) {y : Idn} (hy : y ∈ xs) : idO xs y.key = some y.id := by
  have h := idOf_key hn hy
  rw [idOf_eq] at h
  cases hf : idO xs y.key with
  | none =>
    unfold idO at hf
    rw [Option.map_eq_none_iff, List.find?_eq_none] at hf
    exact absurd (hf y hy) (by simp)
  | some i => rw [hf] at h; exact congrArg some h

/-- What is known when the first items are taken off. -/
def knownG (xs : List Idn) (l : List It) (k : Key) : Option Int := open Classical in if (∃ z ∈ l, z.key = k) then none else idO xs k
theorem knownG_nil (xs : List Idn) (k : Key) : knownG xs [] k = idO xs k := by
  unfold knownG
  rw [if_neg (by simp)]
theorem knownG_snoc (xs : List Idn) (l : List It) (x : It) (k : Key) : knownG xs (l ++ [x]) k = if k = x.key then none else knownG xs l k := by
  unfold knownG
  by_cases e : k = x.key
  · subst e
    rw [if_pos rfl, if_pos ⟨x, by simp, rfl⟩]
  · rw [if_neg e]
    by_cases h : ∃ z ∈ l, z.key = k
    · rw [if_pos h, if_pos]
      obtain ⟨z, hz, hk⟩ := h
      exact ⟨z, by simp [hz], hk⟩
    · rw [if_neg h, if_neg]
      rintro ⟨z, hz, hk⟩
      rcases List.mem_append.1 hz with hz | hz
      · exact h ⟨z, hz, hk⟩
      · rw [List.mem_singleton.1 hz] at hk
        exact e hk.symm
theorem knownG_at {xs : List Idn} {l : List It} (hl : l.Pairwise fun a b => a.key ≠ b.key) {j : Nat} {x : It} (hx : l[j]? = some x) : knownG xs (l.take j) x.key = idO xs x.key := by
  unfold knownG
  rw [if_neg]
  rintro ⟨z, hz, hk⟩
  obtain ⟨i, hi⟩ := List.mem_iff_getElem?.1 hz
  have hij : i < j := by
    have := (List.getElem?_eq_some_iff.1 hi).1
    rw [List.length_take] at this
    omega
  rw [List.getElem?_take_of_lt hij] at hi
  have := sameKey_idx hl hi hx hk
  omega

/-- The row of the first numbers. -/
def row0 (xs : List Idn) (l : List It) (j : Nat) : List Int := (ids0 xs l).take j ++ List.replicate (l.length - j) 0
theorem row0_start (xs : List Idn) (l : List It) : row0 xs l 0 = List.replicate l.length 0 := by simp [row0]
theorem row0_len (xs : List Idn) (l : List It) {j : Nat} (h : j ≤ l.length) : (row0 xs l j).length = l.length := by
  simp [row0, ids0]
  omega
theorem row0_set (xs : List Idn) {l : List It} {j : Nat} {x : It} (hx : l[j]? = some x) : (row0 xs l j).set j (idOf xs x.key) = row0 xs l (j + 1) := by
  have hj := (List.getElem?_eq_some_iff.1 hx).1
  have h0 : (ids0 xs l)[j]? = some (idOf xs x.key) := by unfold ids0; rw [List.getElem?_map, hx]; rfl
  have hl : ((ids0 xs l).take j).length = j := by simp [ids0]; omega
  unfold row0
  rw [List.set_append_right _ _ (by omega), hl, Nat.sub_self, List.take_add_one, h0, show l.length - j = (l.length - (j + 1)) + 1 by omega, List.replicate_succ, List.set_cons_zero]
  simp
theorem row0_end (xs : List Idn) (l : List It) : row0 xs l l.length = ids0 xs l := by
  unfold row0
  rw [Nat.sub_self, List.replicate_zero, List.append_nil, List.take_of_length_le (by simp [ids0])]

theorem left_snoc (xs : List Idn) (y : Idn) (l : List It) : left (xs ++ [y]) l = left xs l ++ if (∀ z ∈ l, z.key ≠ y.key) then [y] else [] := by
  unfold left
  rw [List.filter_append]
  congr 1
  by_cases h : ∀ z ∈ l, z.key ≠ y.key
  · rw [if_pos h, List.filter_cons_of_pos (by simpa using h)]
    rfl
  · rw [if_neg h, List.filter_cons_of_neg (by simpa using h)]
    rfl
theorem knownG_left {xs : List Idn} {l : List It} (hn : xs.Pairwise fun a b => a.key ≠ b.key) {y : Idn} (hy : y ∈ xs) : knownG xs l y.key = if (∀ z ∈ l, z.key ≠ y.key) then some y.id else none := by
  unfold knownG
  by_cases h : ∀ z ∈ l, z.key ≠ y.key
  · rw [if_pos h, if_neg, idO_mem hn hy]
    rintro ⟨z, hz, hk⟩
    exact h z hz hk
  · rw [if_neg h, if_pos]
    simpa using h

theorem zip_at {xs : List Idn} {l : List It} {i : Nat} {x : It} (hx : l[i]? = some x) : ((ids0 xs l).zip l)[i]? = some (idOf xs x.key, x) := by
  rw [List.getElem?_zip_eq_some]
  exact ⟨by unfold ids0; rw [List.getElem?_map, hx]; rfl, hx⟩
theorem cz_news (xs : List Idn) (l : List It) (s : List UInt8) : cz ((ids0 xs l).zip l) s = news xs l s := by
  unfold cz news
  have : (ids0 xs l).zip l = l.map fun x => (idOf xs x.key, x) := by
    apply List.ext_getElem?
    intro i
    rw [List.getElem?_map]
    cases hx : l[i]? with
    | none =>
      rw [Option.map_none, List.getElem?_eq_none_iff]
      have := List.getElem?_eq_none_iff.1 hx
      simp [ids0]
      omega
    | some x => rw [zip_at hx]; rfl
  rw [this, List.countP_map]
  congr 1
theorem gpid_pid (xs : List Idn) (l : List It) (s : List UInt8) : gpid ((ids0 xs l).zip l) (left xs l) s = pid xs l s := by
  unfold gpid pid olds
  rw [cz_news]
  rfl
theorem cur_ids1 {xs : List Idn} {l : List It} {cur : List Int} (h : curI ((ids0 xs l).zip l) (left xs l) (fun _ => True) cur) : cur = ids1 xs l := by
  obtain ⟨hl, h⟩ := h
  have hl2 : cur.length = l.length := by rw [hl]; simp [ids0]
  apply List.ext_getElem?
  intro i
  by_cases hi : i < l.length
  · have hx := List.getElem?_eq_getElem hi
    have hc := List.getElem?_eq_getElem (l := cur) (i := i) (by omega)
    obtain ⟨h1, h2, _⟩ := h i _ _ (zip_at hx) hc
    rw [hc]
    unfold ids1
    rw [List.getElem?_map, hx]
    by_cases h0 : idOf xs l[i].key = 0
    · rw [h2 h0 trivial, gpid_pid, Option.map_some, if_pos h0]
    · rw [h1 h0, Option.map_some, if_neg h0]
  · rw [List.getElem?_eq_none (by omega), List.getElem?_eq_none (by rw [ids1_length]; omega)]

/-- The row while new numbers are given. -/
def rowN (n : Int) (is : List Int) (j : Nat) : List Int := numb n (is.take j) ++ is.drop j
theorem numb_snoc : ∀ (n : Int) (l : List Int) (a : Int), numb n (l ++ [a]) = numb n l ++ [if a = 0 then n + zeros l else a]
  | n, [], a => by
    simp only [List.nil_append, numb]
    split <;> simp [zeros]
  | n, b :: r, a => by
    rw [List.cons_append]
    unfold numb
    split
    · rename_i hb
      rw [numb_snoc (n + 1) r a, zeros_cons, if_pos hb, List.cons_append]
      congr 3
      split
      · omega
      · rfl
    · rename_i hb
      rw [numb_snoc n r a, zeros_cons, if_neg hb, List.cons_append]
      rfl
theorem zeros_snoc (l : List Int) (a : Int) : zeros (l ++ [a]) = zeros l + if a = 0 then 1 else 0 := by
  unfold zeros
  rw [List.countP_append, List.countP_cons, List.countP_nil]
  simp
theorem rowN_at {n : Int} {is : List Int} {j : Nat} : (rowN n is j)[j]? = is[j]? := by
  unfold rowN
  by_cases h : j ≤ is.length
  · have hl : (numb n (is.take j)).length = j := by rw [numb_length, List.length_take]; omega
    rw [List.getElem?_append_right (by omega), hl, Nat.sub_self, List.getElem?_drop]
    rfl
  · rw [List.getElem?_eq_none (by rw [List.length_append, numb_length, List.length_take, List.length_drop]; omega), List.getElem?_eq_none (by omega)]
theorem rowN_len (n : Int) (is : List Int) (j : Nat) : (rowN n is j).length = is.length := by
  unfold rowN
  rw [List.length_append, numb_length, List.length_take, List.length_drop]
  omega
theorem rowN_set {n : Int} {is : List Int} {j : Nat} {a : Int} (h : is[j]? = some a) : (rowN n is j).set j (if a = 0 then n + zeros (is.take j) else a) = rowN n is (j + 1) := by
  have hj := (List.getElem?_eq_some_iff.1 h).1
  have hl : (numb n (is.take j)).length = j := by rw [numb_length, List.length_take]; omega
  unfold rowN
  rw [List.set_append_right _ _ (by omega), hl, Nat.sub_self, take_snoc h, numb_snoc, List.drop_eq_getElem_cons hj, List.set_cons_zero]
  simp
theorem rowN_keep {n : Int} {is : List Int} {j : Nat} {a : Int} (h : is[j]? = some a) (h0 : a ≠ 0) : rowN n is (j + 1) = rowN n is j := by
  rw [← rowN_set h, if_neg h0]
  apply List.ext_getElem?
  intro i
  rw [List.getElem?_set]
  by_cases hij : j = i
  · subst hij
    rw [if_pos rfl, rowN_at, h, if_pos]
    rw [rowN_len]
    exact (List.getElem?_eq_some_iff.1 h).1
  · rw [if_neg hij]
theorem rowN_at' {n : Int} {is : List Int} {j : Nat} {a : Int} (h : is[j]? = some a) : (rowN n is (j + 1))[j]? = some (if a = 0 then n + zeros (is.take j) else a) := by
  rw [← rowN_set h, List.getElem?_set, if_pos rfl, if_pos]
  rw [rowN_len]
  exact (List.getElem?_eq_some_iff.1 h).1
theorem zipI_snoc : ∀ {is : List Int} {l : List It} (a : Int) (x : It), is.length = l.length → zipI (is ++ [a]) (l ++ [x]) = zipI is l ++ [⟨a, x⟩]
  | [], [], a, x, _ => rfl
  | b :: r, y :: s, a, x, h => by
    simp only [List.cons_append, zipI]
    rw [zipI_snoc a x (by simpa using h)]
  | [], _ :: _, _, _, h => by simp at h
  | _ :: _, [], _, _, h => by simp at h
/-- What has come so far. -/
def outJ (n : Int) (is : List Int) (l : List It) (j : Nat) : List Idn := zipI (numb n (is.take j)) (l.take j)
theorem outJ_len {n : Int} {is : List Int} {l : List It} {j : Nat} (h : is.length = l.length) (hj : j ≤ l.length) : (outJ n is l j).length = j := by
  unfold outJ
  rw [zipI_length (by rw [numb_length, List.length_take, List.length_take, h]), List.length_take]
  omega
theorem outJ_snoc {n : Int} {is : List Int} {l : List It} {j : Nat} {a : Int} {x : It} (h : is.length = l.length) (ha : is[j]? = some a) (hx : l[j]? = some x) : outJ n is l (j + 1) = outJ n is l j ++ [⟨if a = 0 then n + zeros (is.take j) else a, x⟩] := by
  unfold outJ
  rw [take_snoc ha, take_snoc hx, numb_snoc, zipI_snoc]
  rw [numb_length, List.length_take, List.length_take, h]
theorem outJ_end {n : Int} {xs : List Idn} {l : List It} : outJ n (ids1 xs l) l l.length = zipI (ids2 n xs l) l := by
  unfold outJ ids2
  rw [List.take_length, List.take_of_length_le (by rw [ids1_length]; exact Nat.le_refl _)]
end Go.Proofs.Ytmnhgkhidepojaa
