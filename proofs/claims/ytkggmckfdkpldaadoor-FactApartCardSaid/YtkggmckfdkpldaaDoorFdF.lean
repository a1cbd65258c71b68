/-
  The walk of recompilelaw10.awake: it returns true, and of what was there nothing has turned.
  Conditions: 'Env'.
-/
import Derived.Test.YtkggmckfdkpldaaDoorFcO
namespace Go.Proofs.YtkggmckfdkpldaaDoor
open Go.RowKit

set_option maxRecDepth 100000 in
theorem pack_awake : pack [[97], []] = [49, 58, 97, 48, 58] := by
  unfold pack pk
  simp [Lib.decDigits_one]

theorem ownForm {w : World} {base : Nat} {e : TypeId} {size n : Nat} {v : Value} {xs : List Value} (h : w.ownsRow base e size v n xs) : ∃ A c, v = .slice A n c := by
  rcases h.2 with ⟨rfl, rfl⟩ | ⟨g, cap, cur, rfl, _⟩
  · exact ⟨none, 0, rfl⟩
  · exact ⟨_, cap, rfl⟩


set_option maxHeartbeats 1000000 in
set_option maxRecDepth 100000 in
theorem awake_any (w : World) (he : Env w) : Calls Tryd.prog 6 #[] w fun e w' => e = .returned (.bool true) ∧ Below w.heap.size w w' := by
  have hU := unpack_yes [[97], []] w he (by rw [pack_awake]; decide)
  rw [pack_awake] at hU
  have HU := Lib.hid hU
  clear hU
  go_enter Tryd.func6, Tryd.ntmps6
  go_wp2_with fail
  refine HU.out.mono ?_
  rintro e w1 ⟨v, rfl, hown, hb1⟩
  obtain ⟨A, c, rfl⟩ := ownForm hown
  have hS := strsOfOwn (ls := [[97], []]) hown
  obtain ⟨ad, l, rfl, hlt, e1, hc⟩ := hS.at_ (k := 0) (by decide)
  simp only [List.getElem?_cons_zero, Option.some.injEq] at e1
  subst e1
  have he1 := he.below hb1
  clear hown
  go_wp2_with fail
  have hb2 : Below w1.heap.size w1 (w1.alloc (.cells #[.string ⟨#[97]⟩, .string ⟨#[]⟩] 9)) := (Below.refl _ _).alloc (Nat.le_refl _) _
  have hP := pack_any (some ⟨w1.heap.size, 0, none⟩) 2 2 (w1.heap.size + 1) [[97], []] (w1.alloc (.cells #[.string ⟨#[97]⟩, .string ⟨#[]⟩] 9)) (he1.below hb2) (strsNew w1 9 [[97], []]) (by simp) (by rw [pack_awake]; decide) (by decide)
  rw [pack_awake, show bs [49, 58, 97, 48, 58] = ⟨#[49, 58, 97, 48, 58]⟩ from rfl] at hP
  refine hP.mono ?_
  clear hP
  rintro e w2 ⟨rfl, hb3⟩
  have hb4 : Below w1.heap.size w1 w2 := hb2.trans (hb3.mono hb2.size)
  have hc2 : w2.cell? ad = some (.string ⟨#[97]⟩) := by
    rw [hb4.cell hlt]
    exact hc
  have hb5 : Below w.heap.size w w2 := hb1.trans (hb4.mono hb1.size)
  go_wp2
  go_ret
  exact ⟨rfl, hb5⟩
end Go.Proofs.YtkggmckfdkpldaaDoor
