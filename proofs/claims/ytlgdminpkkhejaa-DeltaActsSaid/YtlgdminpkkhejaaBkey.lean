/-
  Pairs of strings in their order; three-way comparison of strings.
  No condition beyond those of each theorem.
-/
import Derived.Test.YtlgdminpkkhejaaBm
namespace Go.Proofs.Ytlgdminpkkhejaa
open Go.RowKit

abbrev Key := List UInt8 × List UInt8
def ltKey (a b : Key) : Bool := Op.bytesLess a.1 b.1 || (decide (a.1 = b.1) && Op.bytesLess a.2 b.2)
theorem bytesLess_irr : ∀ a : List UInt8, Op.bytesLess a a = false
  | [] => rfl
  | a :: x => by simp [Op.bytesLess, bytesLess_irr x]
theorem bytesLess_trans : ∀ {a b c : List UInt8}, Op.bytesLess a b = true → Op.bytesLess b c = true → Op.bytesLess a c = true
  | _, [], _, h, _ => by cases ‹List UInt8› <;> simp [Op.bytesLess] at h
  | _, _ :: _, [], _, h => by simp [Op.bytesLess] at h
  | [], b :: y, c :: z, _, _ => rfl
  | a :: x, b :: y, c :: z, h, h' => by
    simp only [Op.bytesLess, Bool.or_eq_true, Bool.and_eq_true, decide_eq_true_eq, beq_iff_eq] at h h' ⊢
    rcases h with h | ⟨rfl, h⟩
    · rcases h' with h' | ⟨rfl, h'⟩
      · exact .inl (UInt8.lt_trans h h')
      · exact .inl h
    · rcases h' with h' | ⟨rfl, h'⟩
      · exact .inl h'
      · exact .inr ⟨rfl, bytesLess_trans h h'⟩
theorem bytesLess_tot : ∀ {a b : List UInt8}, Op.bytesLess a b = false → Op.bytesLess b a = false → a = b
  | [], [], _, _ => rfl
  | [], _ :: _, h, _ => by simp [Op.bytesLess] at h
  | _ :: _, [], _, h => by simp [Op.bytesLess] at h
  | a :: x, b :: y, h, h' => by
    simp only [Op.bytesLess, Bool.or_eq_false_iff, Bool.and_eq_false_iff, decide_eq_false_iff_not, beq_eq_false_iff_ne] at h h'
    have hab : a = b := by
      have h1 := h.1
      have h2 := h'.1
      rw [UInt8.not_lt] at h1 h2
      exact UInt8.le_antisymm h2 h1
    subst hab
    rcases h.2 with h2 | h2
    · exact absurd rfl h2
    · rcases h'.2 with h3 | h3
      · exact absurd rfl h3
      · rw [bytesLess_tot h2 h3]
theorem ltKey_irr (a : Key) : ltKey a a = false := by simp [ltKey, bytesLess_irr]
theorem ltKey_trans {a b c : Key} (h : ltKey a b = true) (h' : ltKey b c = true) : ltKey a c = true := by
  simp only [ltKey, Bool.or_eq_true, Bool.and_eq_true, decide_eq_true_eq] at h h' ⊢
  rcases h with h | ⟨e, h⟩
  · rcases h' with h' | ⟨e', h'⟩
    · exact .inl (bytesLess_trans h h')
    · exact .inl (e' ▸ h)
  · rcases h' with h' | ⟨e', h'⟩
    · exact .inl (e ▸ h')
    · exact .inr ⟨e.trans e', bytesLess_trans h h'⟩

theorem ltKey_tot {a b : Key} (h : ltKey a b = false) (h' : ltKey b a = false) : a = b := by
  simp only [ltKey, Bool.or_eq_false_iff, Bool.and_eq_false_iff, decide_eq_false_iff_not] at h h'
  have h1 := bytesLess_tot h.1 h'.1
  have h2 : Op.bytesLess a.2 b.2 = false := by
    rcases h.2 with h | h
    · exact absurd h1 h
    · exact h
  have h3 : Op.bytesLess b.2 a.2 = false := by
    rcases h'.2 with h | h
    · exact absurd h1.symm h
    · exact h
  exact Prod.ext h1 (bytesLess_tot h2 h3)
theorem ltKey_asym {a b : Key} (h : ltKey a b = true) : ltKey b a = false := by
  cases hb : ltKey b a with
  | false => rfl
  | true => have := ltKey_trans h hb; rw [ltKey_irr] at this; cases this
theorem bs_toList (l : List UInt8) : (bs l).toList = l := by rw [ByteArray.toList_eq, bs_data]
theorem sv_inj {a b : List UInt8} (h : sv a = sv b) : a = b := bs_inj (by injection h)

def cmpS (a b : List UInt8) : Int := if a = b then 0 else if Op.bytesLess a b = true then -1 else 1
def orI (a b : Int) : Int := if a = 0 then b else a
def ordK (a b : Key) : Int := orI (cmpS a.1 b.1) (cmpS a.2 b.2)
theorem ordK_iff (a b : Key) : ordK a b < 0 ↔ ltKey a b = true := by
  unfold ordK orI cmpS ltKey
  by_cases h1 : a.1 = b.1
  · rw [if_pos h1, if_pos rfl, h1, bytesLess_irr]
    by_cases h2 : a.2 = b.2
    · rw [if_pos h2, h2, bytesLess_irr]; simp
    · rw [if_neg h2]
      cases Op.bytesLess a.2 b.2 <;> simp
  · rw [if_neg h1]
    cases Op.bytesLess a.1 b.1 <;> simp [h1]


/-- Keys that ascend. -/
def AscK (l : List Key) : Prop := l.Pairwise fun a b => ltKey a b = true
theorem AscK.unique : ∀ {l l' : List Key}, AscK l → AscK l' → (∀ k, k ∈ l ↔ k ∈ l') → l = l'
  | [], [], _, _, _ => rfl
  | [], b :: r, _, _, h => by have := (h b).2 (by simp); cases this
  | a :: r, [], _, _, h => by have := (h a).1 (by simp); cases this
  | a :: r, b :: s, h1, h2, h => by
    obtain ⟨p1, q1⟩ := List.pairwise_cons.1 h1
    obtain ⟨p2, q2⟩ := List.pairwise_cons.1 h2
    have hab : a = b := by
      rcases List.mem_cons.1 ((h a).1 (by simp)) with e | e
      · exact e
      · rcases List.mem_cons.1 ((h b).2 (by simp)) with e' | e'
        · exact e'.symm
        · have := ltKey_asym (p2 a e)
          rw [p1 b e'] at this
          cases this
    subst hab
    refine congrArg _ (AscK.unique q1 q2 fun k => ⟨fun hk => ?_, fun hk => ?_⟩)
    · rcases List.mem_cons.1 ((h k).1 (List.mem_cons_of_mem _ hk)) with e | e
      · subst e
        have := p1 k hk
        rw [ltKey_irr] at this
        cases this
      · exact e
    · rcases List.mem_cons.1 ((h k).2 (List.mem_cons_of_mem _ hk)) with e | e
      · subst e
        have := p2 k hk
        rw [ltKey_irr] at this
        cases this
      · exact e
theorem AscK.nodup {l : List Key} (h : AscK l) : l.Nodup := h.imp fun {a b} h e => by rw [e, ltKey_irr] at h; cases h
end Go.Proofs.Ytlgdminpkkhejaa
