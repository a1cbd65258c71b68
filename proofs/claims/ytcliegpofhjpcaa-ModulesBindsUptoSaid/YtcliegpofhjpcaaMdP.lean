/-
  Modules, the plain law: what one step gives, how a list grows by one bind.
  No condition beyond those of each theorem.
-/
import Derived.Test.YtcliegpofhjpcaaBkey
namespace Go.Proofs.Ytcliegpofhjpcaa
open Go.RowKit

/-- A name that nobody can write: it begins as implementations' names begin. -/
def hidB (n : List UInt8) : Bool := decide (5 ≤ n.length) && decide (n.take 5 = [105, 109, 112, 108, 32])
def ownS (names : List (List UInt8)) : List (List UInt8) := names.filter fun n => !hidB n
theorem ownS_snoc (l : List (List UInt8)) (n : List UInt8) : ownS (l ++ [n]) = if hidB n = true then ownS l else ownS l ++ [n] := by
  unfold ownS
  rw [List.filter_append]
  cases h : hidB n <;> simp [h]
def bdOf (m n : List UInt8) : Key := (n, m ++ [58, 58] ++ n)
/-- What is known in a step. -/
def InStep (m : List UInt8) (names : List (List UInt8)) (others : List (List Key)) (k : Key) : Prop :=
  (∃ n ∈ ownS names, k = bdOf m n) ∨ ∃ l ∈ others, k ∈ l ∧ k.1 ∉ ownS names
theorem ascK_nil : AscK [] := List.Pairwise.nil
/-- One bind more, in its place. -/
theorem AscK.put {l : List Key} {b : Key} {j : Nat} (h : AscK l) (h1 : ∀ x ∈ l.take j, ltKey x b = true) (h2 : ∀ x, l[j]? = some x → ltKey b x = true) : AscK (l.take j ++ b :: l.drop j) := by
  have hd : ∀ x ∈ l.drop j, ltKey b x = true := by
    cases hj : l[j]? with
    | none =>
      rw [List.drop_eq_nil_of_le (by simpa using hj)]
      intro x hx
      cases hx
    | some y =>
      obtain ⟨hlt, hy⟩ := List.getElem?_eq_some_iff.1 hj
      have hby := h2 y hj
      rw [List.drop_eq_getElem_cons hlt, hy]
      intro x hx
      rcases List.mem_cons.1 hx with rfl | hx
      · exact hby
      · obtain ⟨i, hi⟩ := List.mem_iff_getElem?.1 hx
        rw [List.getElem?_drop] at hi
        obtain ⟨hi1, hi2⟩ := List.getElem?_eq_some_iff.1 hi
        have := List.pairwise_iff_getElem.1 h j (j + 1 + i) hlt hi1 (by omega)
        rw [hy, hi2] at this
        exact ltKey_trans hby this
  refine List.pairwise_append.2 ⟨h.sublist (List.take_sublist _ _), List.pairwise_cons.2 ⟨hd, h.sublist (List.drop_sublist _ _)⟩, fun a ha c hc => ?_⟩
  rcases List.mem_cons.1 hc with rfl | hc
  · exact h1 a ha
  · exact ltKey_trans (h1 a ha) (hd c hc)
theorem mem_put {l : List Key} {b : Key} (j : Nat) (x : Key) : x ∈ l.take j ++ b :: l.drop j ↔ x = b ∨ x ∈ l := by
  rw [List.mem_append, List.mem_cons]
  constructor
  · rintro (h | h | h)
    · exact .inr (List.mem_of_mem_take h)
    · exact .inl h
    · exact .inr (List.mem_of_mem_drop h)
  · rintro (h | h)
    · exact .inr (.inl h)
    · rw [← List.take_append_drop j l] at h
      rcases List.mem_append.1 h with h | h
      · exact .inl h
      · exact .inr (.inr h)
/-- In an ascending list where the first j are below b and the next one is not, b lies there or nowhere. -/
theorem AscK.at_ {l : List Key} {b : Key} {j : Nat} (h2 : ∀ x, l[j]? = some x → ltKey x b = false) (h3 : ∀ x, l[j]? = some x → x ≠ b) : ∀ x, l[j]? = some x → ltKey b x = true := fun x hx => by
  cases hb : ltKey b x with
  | true => rfl
  | false => exact absurd (ltKey_tot (h2 x hx) hb) (h3 x hx)
end Go.Proofs.Ytcliegpofhjpcaa
