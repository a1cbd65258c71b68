/-
  The plain law: what Match, Select, Leads and Holds compute, with no program in sight.
  Conditions: none beyond those of each theorem.
-/
import Derived.Test.YtndhglcdkegigaaDoorSame
namespace Go.Proofs.YtndhglcdkegigaaDoor

mutual
def Ty.eqb : Ty → Ty → Bool
  | .mk n ks, .mk m ls => (n == m) && eqbL ks ls
def eqbL : List Ty → List Ty → Bool
  | [], [] => true
  | a :: r, b :: s => Ty.eqb a b && eqbL r s
  | [], _ :: _ => false
  | _ :: _, [] => false
end

theorem eqbL_iff (ks : List Ty) (ih : ∀ a ∈ ks, ∀ b, a.eqb b = true ↔ a = b) : ∀ ls, eqbL ks ls = true ↔ ks = ls := by
  induction ks with
  | nil => intro ls; cases ls <;> simp [eqbL]
  | cons a r ihr =>
    intro ls
    cases ls with
    | nil => simp [eqbL]
    | cons b s =>
      simp only [eqbL, Bool.and_eq_true, List.cons.injEq]
      rw [ih a (by simp) b, ihr (fun x hx => ih x (by simp [hx])) s]
theorem eqb_iff (a : Ty) : ∀ b, a.eqb b = true ↔ a = b := by
  induction a using Ty.ind with | h n ks ih => ?_
  intro b
  obtain ⟨m, ls⟩ := b
  simp only [Ty.eqb, Bool.and_eq_true, beq_iff_eq, Ty.mk.injEq]
  rw [eqbL_iff ks ih ls]

/-- What Match has found so far: names, and the type of each. -/
abbrev Found := List (List UInt8) × List Ty

def oneName (ns : List (List UInt8)) (ls : List Ty) (x : List UInt8) (t : Ty) : Bool × Found :=
  if 0 ≤ idx ns x 0 then (((ls[(idx ns x 0).toNat]?).map fun y => Ty.eqb y t).getD false, (ns, ls)) else (true, (ns ++ [x], ls ++ [t]))

mutual
def mtch : Ty → Ty → Found → Bool × Found
  | .mk n ks, t, s =>
    if (parW n ks.length).2 then oneName s.1 s.2 (parW n ks.length).1 t
    else if n == t.name && ks.length == t.args.length then mtchL ks t.args s else (false, s)
def mtchL : List Ty → List Ty → Found → Bool × Found
  | [], _, s => (true, s)
  | k :: ks, ts, s => match ts with
    | [] => (true, s)
    | t :: ts => match mtch k t s with
      | (true, s') => mtchL ks ts s'
      | (false, s') => (false, s')
end
end Go.Proofs.YtndhglcdkegigaaDoor
