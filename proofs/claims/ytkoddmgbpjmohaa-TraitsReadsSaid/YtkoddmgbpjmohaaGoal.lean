/-
  Goals and supers in memory, and what a goal leads to.
  Conditions: those of each theorem.
-/
import Derived.Test.YtkoddmgbpjmohaaDelW
namespace Go.Proofs.Ytkoddmgbpjmohaa
open Go.RowKit

abbrev Goal := List UInt8 × Ty
abbrev GV := Value × Value × Value
def flat3 (gs : List GV) : List Value := gs.flatMap fun q => [q.1, q.2.1, q.2.2]
theorem flat3_length (gs : List GV) : (flat3 gs).length = gs.length * 3 := by
  induction gs with
  | nil => rfl
  | cons v r ih => simp only [flat3, List.flatMap_cons, List.length_append, List.length_cons, List.length_nil] at ih ⊢; omega
theorem flat3_at : ∀ (gs : List GV) (i : Nat) (q : GV), gs[i]? = some q → (flat3 gs)[i * 3]? = some q.1 ∧ (flat3 gs)[i * 3 + 1]? = some q.2.1 ∧ (flat3 gs)[i * 3 + 2]? = some q.2.2
  | [], i, q, h => by simp at h
  | v :: r, 0, q, h => by
    simp at h
    subst h
    simp [flat3]
  | v :: r, i + 1, q, h => by
    have := flat3_at r i q (by simpa using h)
    have e : (i + 1) * 3 = i * 3 + 3 := by omega
    rw [e]
    simpa [flat3] using this
theorem flat3_append (a b : List GV) : flat3 (a ++ b) = flat3 a ++ flat3 b := by simp [flat3]

structure GlIs (w : World) (S : Nat → Prop) (g : Goal) (q : GV) : Prop where
  t : q.1 = sv g.1
  ty : TyIs w S g.2 q.2.1 q.2.2
theorem GlIs.keep {w w' : World} {S : Nat → Prop} {g : Goal} {q : GV} (H : GlIs w S g q) (hk : Kept S w w') : GlIs w' S g q := ⟨H.t, H.ty.keep hk⟩
theorem GlIs.more {w : World} {S S' : Nat → Prop} {g : Goal} {q : GV} (H : GlIs w S g q) (hS : ∀ b, S b → S' b) : GlIs w S' g q := ⟨H.t, H.ty.more hS⟩

def boundGoals : List (List UInt8 × List UInt8) → List Ty → List Goal
  | p :: ps, t :: ts => if p.2 = [] then boundGoals ps ts else (p.2, t) :: boundGoals ps ts
  | _, _ => []
def superGoals (s : List (List UInt8 × List UInt8)) (g : Goal) : List Goal := (s.filter fun x => decide (x.1 = g.1)).map fun x => (x.2, g.2)
def mineOf (l : List Hdr) (tr : List UInt8) : List Hdr := l.filter fun h => decide (h.trait = tr)
def leadsOf (l : List Hdr) (s : List (List UInt8 × List UInt8)) (g : Goal) : List Goal × Bool :=
  if (cutD g.2.name).2 = true then ([], decide ((cutD g.2.name).1 = g.1))
  else if g.2.name = errName then ([], true)
  else match selOf (mineOf l g.1) g.2 0 with
    | none => ([], false)
    | some (k, a) => (boundGoals (((mineOf l g.1)[k]?.map (·.params)).getD []) a ++ superGoals s g, true)
end Go.Proofs.Ytkoddmgbpjmohaa
