/-
  Identities, the plain law: what an update gives, that it is unique, and what follows.
  No condition beyond those of each theorem.
-/
import Derived.Test.YtmnhgkhidepojaaBm
namespace Go.Proofs.Ytmnhgkhidepojaa
open Go.RowKit

/-- An item: module, name, shape. -/
structure It where
  md : List UInt8
  nm : List UInt8
  sh : List UInt8
structure Idn where
  id : Int
  it : It
abbrev Key := List UInt8 × List UInt8
def It.key (x : It) : Key := (x.md, x.nm)
def Idn.key (x : Idn) : Key := x.it.key

def ltKey (a b : Key) : Bool := Op.bytesLess a.1 b.1 || (decide (a.1 = b.1) && Op.bytesLess a.2 b.2)
def Asc (l : List It) : Prop := ∀ i a b, l[i]? = some a → l[i + 1]? = some b → ltKey a.key b.key = true

theorem bytesLess_irr : ∀ a : List UInt8, Op.bytesLess a a = false
  | [] => rfl
  | a :: x => by simp [Op.bytesLess, bytesLess_irr x]
theorem bytesLess_trans : ∀ {a b c : List UInt8}, Op.bytesLess a b = true → Op.bytesLess b c = true → Op.bytesLess a c = true
  | _, [], _, h, _ => by cases ‹List UInt8› <;> simp [Op.bytesLess] at h
  | _, _ :: _, [], _, h => by simp [Op.bytesLess] at h
  | [], b :: y, c :: z, _, _ => rfl
  | a :: x, b :: y, c :: z, h, h' => by
    simp only [Op.bytesLess, Bool.or_eq_true, Bool.and_eq_true, decide_eq_true_eq, beq_iff_eq] at h h' ⊢
    rcases h with h | ⟨rfl, h⟩
    · rcases h' with h' | ⟨rfl, h'⟩
      · exact .inl (UInt8.lt_trans h h')
      · exact .inl h
    · rcases h' with h' | ⟨rfl, h'⟩
      · exact .inl h'
      · exact .inr ⟨rfl, bytesLess_trans h h'⟩
theorem bytesLess_tot : ∀ {a b : List UInt8}, Op.bytesLess a b = false → Op.bytesLess b a = false → a = b
  | [], [], _, _ => rfl
  | [], _ :: _, h, _ => by simp [Op.bytesLess] at h
  | _ :: _, [], _, h => by simp [Op.bytesLess] at h
  | a :: x, b :: y, h, h' => by
    simp only [Op.bytesLess, Bool.or_eq_false_iff, Bool.and_eq_false_iff, decide_eq_false_iff_not, beq_eq_false_iff_ne] at h h'
    have hab : a = b := by
      have h1 := h.1
      have h2 := h'.1
      rw [UInt8.not_lt] at h1 h2
      exact UInt8.le_antisymm h2 h1
    subst hab
    rcases h.2 with h2 | h2
    · exact absurd rfl h2
    · rcases h'.2 with h3 | h3
      · exact absurd rfl h3
      · rw [bytesLess_tot h2 h3]
theorem ltKey_irr (a : Key) : ltKey a a = false := by simp [ltKey, bytesLess_irr]
theorem ltKey_trans {a b c : Key} (h : ltKey a b = true) (h' : ltKey b c = true) : ltKey a c = true := by
  simp only [ltKey, Bool.or_eq_true, Bool.and_eq_true, decide_eq_true_eq] at h h' ⊢
  rcases h with h | ⟨e, h⟩
  · rcases h' with h' | ⟨e', h'⟩
    · exact .inl (bytesLess_trans h h')
    · exact .inl (e' ▸ h)
  · rcases h' with h' | ⟨e', h'⟩
    · exact .inl (e ▸ h')
    · exact .inr ⟨e.trans e', bytesLess_trans h h'⟩

theorem Asc.tail {a : It} {l : List It} (h : Asc (a :: l)) : Asc l := fun i x y hx hy => h (i + 1) x y (by simpa using hx) (by simpa using hy)
theorem Asc.pairs : ∀ {l : List It}, Asc l → l.Pairwise fun a b => ltKey a.key b.key = true
  | [], _ => .nil
  | [a], _ => List.pairwise_singleton _ _
  | a :: b :: l, h => by
    have ih := Asc.pairs h.tail
    refine List.pairwise_cons.2 ⟨fun x hx => ?_, ih⟩
    have h1 : ltKey a.key b.key = true := h 0 a b rfl rfl
    rcases List.mem_cons.1 hx with rfl | hx
    · exact h1
    · exact ltKey_trans h1 ((List.pairwise_cons.1 ih).1 x hx)
theorem Asc.keys {l : List It} (h : Asc l) : l.Pairwise fun a b => a.key ≠ b.key :=
  h.pairs.imp fun {a b} h e => by rw [e, ltKey_irr] at h; cases h
theorem asc_of_pairs {l : List It} (h : l.Pairwise fun a b => ltKey a.key b.key = true) : Asc l := fun i a b ha hb => by
  obtain ⟨h1, rfl⟩ := List.getElem?_eq_some_iff.1 ha
  obtain ⟨h2, rfl⟩ := List.getElem?_eq_some_iff.1 hb
  exact List.pairwise_iff_getElem.1 h i (i + 1) h1 h2 (by omega)

def top : Int := 1099511627776
/-- Identities are valid (their number is small by itself). -/
def Chk (n : Int) (xs : List Idn) : Prop := 1 ≤ n ∧ n ≤ top ∧ (∀ y ∈ xs, 1 ≤ y.id ∧ y.id < n) ∧ (xs.Pairwise fun a b => a.id < b.id) ∧ xs.Pairwise fun a b => a.key ≠ b.key

def idOf (xs : List Idn) (k : Key) : Int := ((xs.find? fun y => decide (y.key = k)).map (·.id)).getD 0
def ids0 (xs : List Idn) (l : List It) : List Int := l.map fun y => idOf xs y.key
def left (xs : List Idn) (l : List It) : List Idn := xs.filter fun y => l.all fun z => decide (z.key ≠ y.key)
/-- How many without a number have a shape. -/
def news (xs : List Idn) (l : List It) (s : List UInt8) : Nat := l.countP fun y => decide (idOf xs y.key = 0 ∧ y.sh = s)
def olds (xs : List Idn) (l : List It) (s : List UInt8) : List Idn := (left xs l).filter fun y => decide (y.it.sh = s)
def pid (xs : List Idn) (l : List It) (s : List UInt8) : Int :=
  match olds xs l s with
  | [y] => if news xs l s = 1 then y.id else 0
  | _ => 0
def ids1 (xs : List Idn) (l : List It) : List Int := l.map fun y => if idOf xs y.key = 0 then pid xs l y.sh else idOf xs y.key
/-- New numbers from n on in the place of 0. -/
def numb : Int → List Int → List Int
  | _, [] => []
  | n, a :: r => if a = 0 then n :: numb (n + 1) r else a :: numb n r
def zeros (l : List Int) : Nat := l.countP fun a => decide (a = 0)
def zipI : List Int → List It → List Idn
  | a :: r, x :: s => ⟨a, x⟩ :: zipI r s
  | _, _ => []
def ids2 (n : Int) (xs : List Idn) (l : List It) : List Int := numb n (ids1 xs l)
def nextOf (n : Int) (xs : List Idn) (l : List It) : Int := n + zeros (ids1 xs l)

/-- What an update gives: the next number, the list, the error (0, invalid, limit). -/
def Upd (inv lim : Int) (n : Int) (xs : List Idn) (l : List It) (m : Int) (ys : List Idn) (e : Int) : Prop :=
  (¬ (Chk n xs ∧ Asc l) ∧ m = n ∧ ys = xs ∧ e = inv) ∨
  (Chk n xs ∧ Asc l ∧ top < nextOf n xs l ∧ m = n ∧ ys = xs ∧ e = lim) ∨
  (Chk n xs ∧ Asc l ∧ nextOf n xs l ≤ top ∧ m = nextOf n xs l ∧ ys.Perm (zipI (ids2 n xs l) l) ∧ (ys.Pairwise fun a b => a.id ≤ b.id) ∧ e = 0)

theorem numb_length : ∀ (n : Int) (l : List Int), (numb n l).length = l.length
  | _, [] => rfl
  | n, a :: r => by
    unfold numb
    split
    · simp [numb_length (n + 1) r]
    · simp [numb_length n r]
theorem ids1_length (xs : List Idn) (l : List It) : (ids1 xs l).length = l.length := by simp [ids1]
theorem ids2_length (n : Int) (xs : List Idn) (l : List It) : (ids2 n xs l).length = l.length := by rw [ids2, numb_length, ids1_length]

theorem zipI_at : ∀ {is : List Int} {l : List It} {i : Nat}, (zipI is l)[i]? = (is[i]?).bind fun a => (l[i]?).map fun x => (⟨a, x⟩ : Idn)
  | [], l, i => by simp [zipI]
  | a :: r, [], i => by simp [zipI]
  | a :: r, x :: s, 0 => by simp [zipI]
  | a :: r, x :: s, i + 1 => by
    have := @zipI_at r s i
    simpa [zipI] using this
theorem zipI_mem {is : List Int} {l : List It} {y : Idn} (h : y ∈ zipI is l) : ∃ i : Nat, is[i]? = some y.id ∧ l[i]? = some y.it := by
  obtain ⟨i, hi⟩ := List.mem_iff_getElem?.1 h
  rw [zipI_at] at hi
  cases ha : is[i]? with
  | none => rw [ha] at hi; cases hi
  | some a =>
    rw [ha] at hi
    cases hx : l[i]? with
    | none => rw [hx] at hi; cases hi
    | some x =>
      rw [hx] at hi
      obtain rfl := Option.some.inj hi
      exact ⟨i, ha, hx⟩
theorem zipI_of {is : List Int} {l : List It} {i : Nat} {a : Int} {x : It} (ha : is[i]? = some a) (hx : l[i]? = some x) : (⟨a, x⟩ : Idn) ∈ zipI is l := by
  refine List.mem_iff_getElem?.2 ⟨i, ?_⟩
  rw [zipI_at, ha, hx]
  rfl
theorem zipI_length : ∀ {is : List Int} {l : List It}, is.length = l.length → (zipI is l).length = l.length
  | [], [], _ => rfl
  | a :: r, x :: s, h => by simp only [zipI, List.length_cons]; rw [zipI_length (by simpa using h)]
  | [], _ :: _, h => by simp at h
  | _ :: _, [], h => by simp at h

theorem zeros_cons (a : Int) (l : List Int) : zeros (a :: l) = zeros l + if a = 0 then 1 else 0 := by
  unfold zeros
  rw [List.countP_cons]
  simp
/-- Numbers that stay stay; others come from n on, below the next one, each once. -/
theorem numb_at : ∀ {n : Int} {l : List Int} {i : Nat} {a : Int}, l[i]? = some a → (numb n l)[i]? = some (if a = 0 then n + zeros (l.take i) else a)
  | n, [], i, a, h => by simp at h
  | n, b :: r, 0, a, h => by
    simp at h
    subst h
    unfold numb
    split <;> simp [zeros]
  | n, b :: r, i + 1, a, h => by
    have h : r[i]? = some a := by simpa using h
    unfold numb
    split
    · rename_i hb
      have := @numb_at (n + 1) r i a h
      rw [List.getElem?_cons_succ, this, List.take_succ_cons, zeros_cons, if_pos hb]
      congr 1
      split
      · omega
      · rfl
    · rename_i hb
      have := @numb_at n r i a h
      rw [List.getElem?_cons_succ, this, List.take_succ_cons, zeros_cons, if_neg hb]
      rfl
theorem zeros_take {l : List Int} {i k : Nat} (h : i ≤ k) : zeros (l.take i) ≤ zeros (l.take k) := by
  have : l.take i = (l.take k).take i := by rw [List.take_take, Nat.min_eq_left h]
  rw [this]
  exact List.Sublist.countP_le (List.take_sublist _ _)
theorem zeros_take_lt {l : List Int} {i k : Nat} (h : i < k) (h0 : l[i]? = some 0) : zeros (l.take i) < zeros (l.take k) := by
  have h1 : zeros (l.take (i + 1)) = zeros (l.take i) + 1 := by
    rw [List.take_add_one, h0, zeros, List.countP_append]
    rfl
  have := zeros_take (l := l) (show i + 1 ≤ k from h)
  omega
theorem zeros_take_le {l : List Int} {i : Nat} (h0 : l[i]? = some 0) : zeros (l.take i) < zeros l := by
  have := zeros_take_lt (l := l) (i := i) (k := l.length) ((List.getElem?_eq_some_iff.1 h0).1) h0
  rwa [List.take_length] at this

theorem idOf_mem {xs : List Idn} {k : Key} (h : idOf xs k ≠ 0) : ∃ y ∈ xs, y.key = k ∧ y.id = idOf xs k := by
  unfold idOf at h ⊢
  cases hf : xs.find? fun y => decide (y.key = k) with
  | none => rw [hf] at h; exact absurd rfl h
  | some y => exact ⟨y, List.mem_of_find?_eq_some hf, by simpa using List.find?_some hf, rfl⟩
theorem idOf_key {xs : List Idn} {y : Idn} (hn : xs.Pairwise fun a b => a.key ≠ b.key) (h : y ∈ xs) : idOf xs y.key = y.id := by
  unfold idOf
  cases hf : xs.find? fun z => decide (z.key = y.key) with
  | none => exact absurd (List.find?_eq_none.1 hf y h) (by simp)
  | some z =>
    have hz : z.key = y.key := by simpa using List.find?_some hf
    have hm := List.mem_of_find?_eq_some hf
    obtain ⟨i, hi⟩ := List.mem_iff_getElem?.1 hm
    obtain ⟨k, hk⟩ := List.mem_iff_getElem?.1 h
    obtain ⟨h1, rfl⟩ := List.getElem?_eq_some_iff.1 hi
    obtain ⟨h2, rfl⟩ := List.getElem?_eq_some_iff.1 hk
    have hp := List.pairwise_iff_getElem.1 hn
    rcases Nat.lt_trichotomy i k with hlt | rfl | hlt
    · exact absurd hz (hp i k h1 h2 hlt)
    · rfl
    · exact absurd hz.symm (hp k i h2 h1 hlt)
theorem idOf_none {xs : List Idn} {k : Key} (h : ∀ y ∈ xs, y.key ≠ k) : idOf xs k = 0 := by
  unfold idOf
  rw [List.find?_eq_none.2 fun y hy => by simpa using h y hy]
  rfl

theorem left_mem {xs : List Idn} {l : List It} {y : Idn} : y ∈ left xs l ↔ y ∈ xs ∧ ∀ z ∈ l, z.key ≠ y.key := by
  simp [left, List.mem_filter, List.all_eq_true]
theorem pid_mem {xs : List Idn} {l : List It} {s : List UInt8} (h : pid xs l s ≠ 0) : ∃ y ∈ left xs l, y.it.sh = s ∧ y.id = pid xs l s ∧ news xs l s = 1 := by
  unfold pid at h ⊢
  split at h
  · rename_i y hy
    split at h
    · rename_i hn
      have hm : y ∈ olds xs l s := by rw [hy]; simp
      have := List.mem_filter.1 hm
      exact ⟨y, this.1, by simpa using this.2, by rw [if_pos hn], hn⟩
    · exact absurd rfl h
  · exact absurd rfl h

theorem countP_two {α : Type} {p : α → Bool} : ∀ {l : List α} {i k : Nat} {a b : α}, i < k → l[i]? = some a → l[k]? = some b → p a = true → p b = true → 2 ≤ l.countP p
  | [], i, k, a, b, _, h, _, _, _ => by simp at h
  | x :: r, 0, k + 1, a, b, _, h, h', ha, hb => by
    simp at h h'
    subst h
    rw [List.countP_cons, if_pos ha]
    have : 1 ≤ r.countP p := List.countP_pos_iff.2 ⟨b, List.mem_of_getElem? h', hb⟩
    omega
  | x :: r, i + 1, k + 1, a, b, hik, h, h', ha, hb => by
    have := @countP_two α p r i k a b (by omega) (by simpa using h) (by simpa using h') ha hb
    rw [List.countP_cons]
    omega

theorem sameKey_idx {l : List It} (hl : l.Pairwise fun a b => a.key ≠ b.key) {i k : Nat} {x y : It} (hi : l[i]? = some x) (hk : l[k]? = some y) (h : x.key = y.key) : i = k := by
  obtain ⟨h1, rfl⟩ := List.getElem?_eq_some_iff.1 hi
  obtain ⟨h2, rfl⟩ := List.getElem?_eq_some_iff.1 hk
  have hp := List.pairwise_iff_getElem.1 hl
  rcases Nat.lt_trichotomy i k with hlt | rfl | hlt
  · exact absurd h (hp i k h1 h2 hlt)
  · rfl
  · exact absurd h.symm (hp k i h2 h1 hlt)
theorem sameId {xs : List Idn} (hx : xs.Pairwise fun a b => a.id < b.id) {x y : Idn} (hi : x ∈ xs) (hk : y ∈ xs) (h : x.id = y.id) : x = y := by
  obtain ⟨i, hi⟩ := List.mem_iff_getElem?.1 hi
  obtain ⟨k, hk⟩ := List.mem_iff_getElem?.1 hk
  obtain ⟨h1, rfl⟩ := List.getElem?_eq_some_iff.1 hi
  obtain ⟨h2, rfl⟩ := List.getElem?_eq_some_iff.1 hk
  have hp := List.pairwise_iff_getElem.1 hx
  rcases Nat.lt_trichotomy i k with hlt | rfl | hlt
  · have := hp i k h1 h2 hlt; omega
  · rfl
  · have := hp k i h2 h1 hlt; omega

theorem ids1_at {xs : List Idn} {l : List It} {i : Nat} {a : Int} (h : (ids1 xs l)[i]? = some a) : ∃ x, l[i]? = some x ∧ a = if idOf xs x.key = 0 then pid xs l x.sh else idOf xs x.key := by
  unfold ids1 at h
  rw [List.getElem?_map] at h
  cases hx : l[i]? with
  | none => rw [hx] at h; cases h
  | some x => rw [hx] at h; exact ⟨x, rfl, (Option.some.inj h).symm⟩

/-- Numbers that are given: known ones lie in the identities, and each is given once. -/
theorem ids1_in {n : Int} {xs : List Idn} {l : List It} (hc : Chk n xs) {i : Nat} {a : Int} (h : (ids1 xs l)[i]? = some a) (h0 : a ≠ 0) : 1 ≤ a ∧ a < n ∧ ∃ x y, l[i]? = some x ∧ y ∈ xs ∧ y.id = a ∧ (y.key = x.key ∨ (idOf xs x.key = 0 ∧ y ∈ left xs l ∧ y.it.sh = x.sh ∧ news xs l x.sh = 1)) := by
  obtain ⟨x, hx, ha⟩ := ids1_at h
  by_cases hk : idOf xs x.key = 0
  · rw [if_pos hk] at ha
    subst ha
    obtain ⟨y, hy, hs, hyi, hn⟩ := pid_mem h0
    have hyx := (left_mem.1 hy).1
    have := hc.2.2.1 y hyx
    rw [hyi] at this
    exact ⟨this.1, this.2, x, y, hx, hyx, hyi, .inr ⟨hk, hy, hs, hn⟩⟩
  · rw [if_neg hk] at ha
    subst ha
    obtain ⟨y, hy, hyk, hyi⟩ := idOf_mem hk
    have := hc.2.2.1 y hy
    rw [hyi] at this
    exact ⟨this.1, this.2, x, y, hx, hy, hyi, .inl hyk⟩

theorem ids1_inj {n : Int} {xs : List Idn} {l : List It} (hc : Chk n xs) (hl : l.Pairwise fun a b => a.key ≠ b.key) {i k : Nat} {a : Int} (hi : (ids1 xs l)[i]? = some a) (hk : (ids1 xs l)[k]? = some a) (h0 : a ≠ 0) : i = k := by
  obtain ⟨_, _, x, y, hx, hy, hya, hyx⟩ := ids1_in hc hi h0
  obtain ⟨_, _, x', y', hx', hy', hya', hyx'⟩ := ids1_in hc hk h0
  have hyy : y = y' := sameId hc.2.2.2.1 hy hy' (hya.trans hya'.symm)
  subst hyy
  rcases hyx with e | ⟨e0, e1, e2, e3⟩
  · rcases hyx' with e' | ⟨e0', e1', e2', e3'⟩
    · exact sameKey_idx hl hx hx' (e.symm.trans e')
    · exact absurd e.symm ((left_mem.1 e1').2 x (List.mem_of_getElem? hx))
  · rcases hyx' with e' | ⟨e0', e1', e2', e3'⟩
    · exact absurd e'.symm ((left_mem.1 e1).2 x' (List.mem_of_getElem? hx'))
    · have hss : x.sh = x'.sh := e2.symm.trans e2'
      rcases Nat.lt_trichotomy i k with hlt | rfl | hlt
      · have := countP_two (p := fun y => decide (idOf xs y.key = 0 ∧ y.sh = x.sh)) hlt hx hx' (by simp [e0]) (by simp [e0', hss])
        unfold news at e3
        omega
      · rfl
      · have := countP_two (p := fun y => decide (idOf xs y.key = 0 ∧ y.sh = x.sh)) hlt hx' hx (by simp [e0', hss]) (by simp [e0])
        unfold news at e3
        omega

theorem ids2_inj {n : Int} {xs : List Idn} {l : List It} (hc : Chk n xs) (hl : l.Pairwise fun a b => a.key ≠ b.key) {i k : Nat} {a : Int} (hi : (ids2 n xs l)[i]? = some a) (hk : (ids2 n xs l)[k]? = some a) : i = k := by
  have key : ∀ {i : Nat} {a : Int}, (ids2 n xs l)[i]? = some a → ∃ b, (ids1 xs l)[i]? = some b ∧ a = if b = 0 then n + zeros ((ids1 xs l).take i) else b := by
    intro i a h
    have hi : i < (ids1 xs l).length := by
      have := (List.getElem?_eq_some_iff.1 h).1
      rw [ids2_length] at this
      rw [ids1_length]
      exact this
    have hb := List.getElem?_eq_getElem hi
    unfold ids2 at h
    rw [numb_at hb] at h
    exact ⟨_, hb, (Option.some.inj h).symm⟩
  obtain ⟨b, hb, hab⟩ := key hi
  obtain ⟨b', hb', hab'⟩ := key hk
  by_cases h0 : b = 0
  · rw [if_pos h0] at hab
    subst h0
    by_cases h0' : b' = 0
    · rw [if_pos h0'] at hab'
      subst h0'
      rcases Nat.lt_trichotomy i k with hlt | rfl | hlt
      · have := zeros_take_lt hlt hb; omega
      · rfl
      · have := zeros_take_lt hlt hb'; omega
    · rw [if_neg h0'] at hab'
      subst hab'
      have := (ids1_in hc hb' h0').2.1
      omega
  · rw [if_neg h0] at hab
    subst hab
    by_cases h0' : b' = 0
    · rw [if_pos h0'] at hab'
      have := (ids1_in hc hb h0).2.1
      omega
    · rw [if_neg h0'] at hab'
      subst hab'
      exact ids1_inj hc hl hb hb' h0

theorem zip_nodup {n : Int} {xs : List Idn} {l : List It} (hc : Chk n xs) (hl : l.Pairwise fun a b => a.key ≠ b.key) : (zipI (ids2 n xs l) l).Pairwise fun a b => a.id ≠ b.id := by
  refine List.pairwise_iff_getElem.2 fun i k hi hk hlt he => ?_
  have h1 := List.getElem?_eq_getElem hi
  have h2 := List.getElem?_eq_getElem hk
  rw [zipI_at] at h1 h2
  obtain ⟨a, ha, h1⟩ := Option.bind_eq_some_iff.1 h1
  obtain ⟨b, hb, h2⟩ := Option.bind_eq_some_iff.1 h2
  obtain ⟨x, hx, h1⟩ := Option.map_eq_some_iff.1 h1
  obtain ⟨y, hy, h2⟩ := Option.map_eq_some_iff.1 h2
  rw [← h1, ← h2] at he
  have hab : a = b := he
  subst hab
  have := ids2_inj hc hl ha hb
  omega

/-- Lists with the same members, by numbers that ascend, are the same. -/
theorem asc_unique {a b : List Idn} (hp : a.Perm b) (ha : a.Pairwise fun x y => x.id ≤ y.id) (hb : b.Pairwise fun x y => x.id ≤ y.id) (hn : a.Pairwise fun x y => x.id ≠ y.id) : a = b := by
  refine List.Perm.eq_of_pairwise (le := fun x y => x.id ≤ y.id) (fun x y hx hy hxy hyx => ?_) ha hb hp
  have hy' : y ∈ a := hp.mem_iff.2 hy
  obtain ⟨i, hi⟩ := List.mem_iff_getElem?.1 hx
  obtain ⟨k, hk⟩ := List.mem_iff_getElem?.1 hy'
  obtain ⟨h1, rfl⟩ := List.getElem?_eq_some_iff.1 hi
  obtain ⟨h2, rfl⟩ := List.getElem?_eq_some_iff.1 hk
  have hq := List.pairwise_iff_getElem.1 hn
  rcases Nat.lt_trichotomy i k with hlt | rfl | hlt
  · exact absurd (by omega) (hq i k h1 h2 hlt)
  · rfl
  · exact absurd (by omega) (hq k i h2 h1 hlt)

theorem Upd.unique {inv lim n : Int} {xs : List Idn} {l : List It} {m m' e e' : Int} {ys ys' : List Idn} (h : Upd inv lim n xs l m ys e) (h' : Upd inv lim n xs l m' ys' e') : m = m' ∧ ys = ys' ∧ e = e' := by
  rcases h with ⟨h1, rfl, rfl, rfl⟩ | ⟨h1, h2, h3, rfl, rfl, rfl⟩ | ⟨h1, h2, h3, rfl, hp, hs, rfl⟩
  · rcases h' with ⟨_, rfl, rfl, rfl⟩ | ⟨g1, g2, _⟩ | ⟨g1, g2, _⟩
    · exact ⟨rfl, rfl, rfl⟩
    · exact absurd ⟨g1, g2⟩ h1
    · exact absurd ⟨g1, g2⟩ h1
  · rcases h' with ⟨g1, _⟩ | ⟨g1, g2, g3, rfl, rfl, rfl⟩ | ⟨g1, g2, g3, _⟩
    · exact absurd ⟨h1, h2⟩ g1
    · exact ⟨rfl, rfl, rfl⟩
    · omega
  · rcases h' with ⟨g1, _⟩ | ⟨g1, g2, g3, _⟩ | ⟨g1, g2, g3, rfl, hp', hs', rfl⟩
    · exact absurd ⟨h1, h2⟩ g1
    · omega
    · refine ⟨rfl, ?_, rfl⟩
      have hz := zip_nodup h1 h2.keys
      refine asc_unique (hp.trans hp'.symm) hs hs' ?_
      exact hp.symm.pairwise hz fun {a b} h => fun e => h e.symm
def fnd (xs : List Idn) (k : Key) : Option Int := (xs.find? fun y => decide (y.key = k)).map (·.id)
end Go.Proofs.Ytmnhgkhidepojaa
