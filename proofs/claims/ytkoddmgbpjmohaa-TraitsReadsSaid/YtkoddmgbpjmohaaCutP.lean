/-
  The text of a goal: cut at the first space. No program is in sight.
  Conditions: none.
-/
import Derived.Test.YtkoddmgbpjmohaaParse
import Derived.Test.YtkoddmgbpjmohaaGoal
import Derived.Lib.IndexMore
import Derived.Lib.IndexLaws
namespace Go.Proofs.Ytkoddmgbpjmohaa

def frc (c : UInt8) (s : List UInt8) : List UInt8 := s.takeWhile fun x => x != c
def bkc (c : UInt8) (s : List UInt8) : List UInt8 := s.dropWhile fun x => x != c
theorem fr_bk (c : UInt8) (s : List UInt8) : frc c s ++ bkc c s = s := List.takeWhile_append_dropWhile
theorem bkc_head (c : UInt8) : ∀ (s r : List UInt8) (x : UInt8), bkc c s = x :: r → x = c
  | [], r, x, h => by simp [bkc] at h
  | y :: s, r, x, h => by
    by_cases hy : y = c
    · subst hy
      simp [bkc] at h
      exact h.1.symm
    · have : bkc c (y :: s) = bkc c s := by simp [bkc, hy]
      rw [this] at h
      exact bkc_head c s r x h
theorem frc_cons (c : UInt8) (y : UInt8) (s : List UInt8) (hy : y ≠ c) : frc c (y :: s) = y :: frc c s := by simp [frc, hy]
theorem bkc_cons (c : UInt8) (y : UInt8) (s : List UInt8) (hy : y ≠ c) : bkc c (y :: s) = bkc c s := by simp [bkc, hy]
theorem bkc_eq (c : UInt8) (s : List UInt8) : bkc c (c :: s) = c :: s := by simp [bkc]
theorem frc_eq (c : UInt8) (s : List UInt8) : frc c (c :: s) = [] := by simp [frc]

theorem index_at (c : UInt8) : ∀ s : List UInt8, Lib.index s [c] = if bkc c s = [] then -1 else ((frc c s).length : Int)
  | [] => rfl
  | b :: l => by
    unfold Lib.index
    by_cases hb : b = c
    · subst hb
      rw [bkc_eq, frc_eq]
      simp
    · have hp : ([c] : List UInt8).isPrefixOf (b :: l) = false := by
        simp [List.isPrefixOf]
        exact fun h => hb h.symm
      rw [hp, bkc_cons c b l hb, frc_cons c b l hb]
      simp only [Bool.false_eq_true, if_false]
      rw [index_at c l]
      by_cases h0 : bkc c l = []
      · simp [h0]
      · simp only [h0, if_false]
        have : ((((frc c l).length : Int) == -1) = false) := by simp
        rw [this]
        simp

theorem cut_at (c : UInt8) (s : List UInt8) : Lib.cut s [c] = match bkc c s with
    | [] => (s, [], false)
    | _ :: r => (frc c s, r, true) := by
  rcases h : bkc c s with _ | ⟨x, r⟩
  · have hi : Lib.index s [c] = -1 := by rw [index_at, h, if_pos rfl]
    unfold Lib.cut
    rw [hi]
    rfl
  · have hx := bkc_head c s r x h
    subst hx
    have e := fr_bk x s
    have hi : Lib.index s [x] = ((frc x s).length : Int) := by rw [index_at, h, if_neg (by simp)]
    rw [h] at e
    unfold Lib.cut
    rw [hi, if_pos (by omega), Int.toNat_natCast]
    generalize frc x s = p at e
    subst e
    simp

def goalOf (s : List UInt8) : Option Goal :=
  match bkc 32 s with
  | [] => none
  | _ :: r => match parse r with
    | none => none
    | some t => if frc 32 s = [] then none else some (frc 32 s, t)

theorem goalOf_prn {s : List UInt8} {g : Goal} (h : goalOf s = some g) : g.1 ++ 32 :: prn g.2 = s ∧ g.1.length ≤ s.length ∧ (prn g.2).length ≤ s.length := by
  have e := fr_bk 32 s
  unfold goalOf at h
  split at h
  · cases h
  · rename_i x r hb
    have hx := bkc_head 32 s r x hb
    subst hx
    split at h
    · cases h
    · rename_i t hp
      split at h
      · cases h
      · cases h
        have := parse_prn hp
        simp only [this]
        rw [hb] at e
        refine ⟨e, ?_, ?_⟩
        · conv => rhs; rw [← e]
          simp
        · conv => rhs; rw [← e]
          simp
          omega
theorem bkc_len (c : UInt8) (s : List UInt8) : (bkc c s).length ≤ s.length := by
  have := congrArg List.length (fr_bk c s)
  simp at this
  omega
end Go.Proofs.Ytkoddmgbpjmohaa
