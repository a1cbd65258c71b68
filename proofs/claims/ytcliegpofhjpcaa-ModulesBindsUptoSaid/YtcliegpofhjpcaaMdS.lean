/-
  The walk of slices.SortFunc over binds, in their order.
  Conditions: the binds lie in a row of one's own.
-/
import Derived.Test.YtcliegpofhjpcaaMdO
import Derived.Test.YtcliegpofhjpcaaBsrt
import Derived.Test.YtcliegpofhjpcaaShelfS
import Derived.Shelf.SlSortCmp.NoneTotal
namespace Go.Proofs.Ytcliegpofhjpcaa
open Go.RowKit Go.Shelf Go.Sort

theorem ltOrd (x y : Key) : ltOf ordK x y = ltKey x y := by
  unfold ltOf
  cases h : ltKey x y with
  | true => simpa using (ordK_iff x y).2 h
  | false =>
    have : ¬ ordK x y < 0 := fun e => by have := (ordK_iff x y).1 e; rw [h] at this; cases this
    simp [this]
theorem swoK : SWO (ltOf ordK) where
  irrefl x := by rw [ltOrd]; exact ltKey_irr x
  trans x y z h1 h2 := by rw [ltOrd] at *; exact ltKey_trans h1 h2
  ntrans x y z h1 h2 := by
    rw [ltOrd] at *
    cases h : ltKey x z with
    | false => rfl
    | true =>
      cases h3 : ltKey y x with
      | true => have := ltKey_trans h3 h; rw [h2] at this; cases this
      | false =>
        have := ltKey_tot h1 h3
        subst this
        rw [h] at h2
        cases h2

/-- The binds in order, in the same row. -/
def SortO (base : Nat) (A : Option Addr) (c k : Nat) (zs : List Key) (w : World) (e : Ending) (w' : World) : Prop :=
  e = .returned (.tuple #[]) ∧ ∃ ys : List Key, ys.Perm zs ∧ (ys.Pairwise fun x y => ltKey y x = false) ∧ w'.ownsRow base 42 2 (.slice A k c) k (flt bdC ys) ∧ ∃ g, base ≤ g ∧ Kp (fun y => y = g) w w'
theorem sortO_any (base : Nat) (A : Option Addr) (c k : Nat) (zs : List Key) (w : World) (hown : w.ownsRow base 42 2 (.slice A k c) k (flt bdC zs)) (hz : zs.length = k) (hl : k < 4611686018427387904) :
    Calls Try.prog 31 #[.slice A k c, .func (.func 25) #[] #[]] w (SortO base A c k zs w) := by
  subst hz
  rcases hown.2 with ⟨hv, h0⟩ | ⟨g, cap, cur, hv, _⟩
  · have hz : zs = [] := List.eq_nil_of_length_eq_zero h0
    subst hz
    have h := AnyF.slices_SortFunc_none Try.laysSort A c (.func (.func 25) #[] #[]) w
    change Calls Try.prog 31 _ _ _ at h
    refine h.mono ?_
    rintro e w' ⟨rfl, rfl⟩
    exact ⟨rfl, [], List.Perm.refl _, .nil, hown, base, Nat.le_refl _, Kp.refl _ _⟩
  · obtain ⟨rfl, _, rfl⟩ := Value.slice.inj hv
    have hg := (hown.lt g rfl).1
    have eg : ∀ args w, (callFunc 25 args).run Try.prog w = .ok (.enter 25 args) w := enters_of Try.func25 (by kernel_rfl) rfl
    have h := sortFunc_own Try.laysSort 2 Try.isAgg42 Try.sizeOf42 bdC bdC_len bdC_one ordK swoK 25 #[] base 42 g c zs w eg (fun x y W => order_any x y W) hown hl
    change Calls Try.prog 31 _ _ _ at h
    refine h.mono ?_
    rintro e w' ⟨rfl, ys, hp, hs, ho, hk⟩
    refine ⟨rfl, ys, hp, hs.imp fun {x y} h => ?_, ho, g, hg, hk⟩
    have h : ¬ ordK y x < 0 := h
    cases hb : ltKey y x with
    | false => rfl
    | true => exact absurd ((ordK_iff y x).2 hb) h
end Go.Proofs.Ytcliegpofhjpcaa
