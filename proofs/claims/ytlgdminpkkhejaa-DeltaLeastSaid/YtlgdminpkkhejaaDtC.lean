/-
  Differences of lists of messages, the plain law of DeltaLeast: counts by place and kind.
  Conditions: the messages stand at places below six.
-/
import Derived.Test.YtlgdminpkkhejaaDtB
namespace Go.Proofs.Ytlgdminpkkhejaa
open Go.RowKit

theorem fk_sum (κ : Int × List UInt8) : ∀ l : List Msg, (∀ m ∈ l, 0 ≤ m.1 ∧ m.1 < 6) → l.count ((0 : Int), κ) + l.count ((1 : Int), κ) + l.count ((2 : Int), κ) + l.count ((3 : Int), κ) + l.count ((4 : Int), κ) + l.count ((5 : Int), κ) = (fk κ l).length
  | [], _ => by simp [fk]
  | x :: r, h => by
    have ih := fk_sum κ r fun m hm => h m (List.mem_cons_of_mem _ hm)
    obtain ⟨h0, h5⟩ := h x List.mem_cons_self
    unfold fk at ih ⊢
    rw [List.filter_cons]
    simp only [List.count_cons]
    obtain ⟨p, q⟩ := x
    simp only at h0 h5 ⊢
    by_cases e : q = κ
    · subst e
      have hp : p = 0 ∨ p = 1 ∨ p = 2 ∨ p = 3 ∨ p = 4 ∨ p = 5 := by omega
      rw [if_pos (show decide (q = q) = true by simp), List.length_cons, ← ih]
      rcases hp with rfl | rfl | rfl | rfl | rfl | rfl <;> simp <;> omega
    · rw [if_neg (show ¬ decide (q = κ) = true by simpa using e), ← ih]
      have hn : ∀ n : Int, ((p, q) == (n, κ)) = false := fun n => by simp [e]
      simp [hn, e]
theorem gone_made {old : List Msg} (now : List Msg) (h : ∀ m ∈ old, 0 ≤ m.1 ∧ m.1 < 6) : ∀ m ∈ goneM old now, 0 ≤ m.1 ∧ m.1 < 6 := fun m hm => by
  have := List.count_pos_iff.2 hm
  rw [gone_count] at this
  exact h m (List.count_pos_iff.1 (by omega))
/-- As many moves as can be paired; the rest gone or come. -/
theorem of_least (old now : List Msg) (κ : Int × List UInt8) :
    (fk κ ((ofM old now).moved.map (·.2.2))).length = min (fk κ (goneM old now)).length (fk κ (goneM now old)).length ∧ (fk κ (ofM old now).gone).length = (fk κ (goneM old now)).length - (fk κ ((ofM old now).moved.map (·.2.2))).length ∧ (fk κ (ofM old now).come).length = (fk κ (goneM now old)).length - (fk κ ((ofM old now).moved.map (·.2.2))).length := by
  obtain ⟨h1, h2, h3, h4⟩ := mate_kind κ (goneM now old) (goneM old now)
  have e1 : (ofM old now).gone = (mate (goneM now old) (goneM old now)).2.2 := rfl
  have e2 : (ofM old now).come = (mate (goneM now old) (goneM old now)).1 := rfl
  have e3 : (ofM old now).moved.map (·.2.2) = (mate (goneM now old) (goneM old now)).2.1.map (·.2) := moved_msg old now
  rw [e1, e2, e3, h1, h2, h4]
  simp only [List.length_take, List.length_drop]
  exact ⟨trivial, by omega, by omega⟩
end Go.Proofs.Ytlgdminpkkhejaa
