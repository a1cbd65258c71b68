/-
  The walk of unify.New.
  Conditions: types lie in plain blocks.
-/
import Derived.Test.YtndhglcdkegigaaDoorEqu
namespace Go.Proofs.YtndhglcdkegigaaDoor
open Go.RowKit

def NewRes (B : Nat) (S : Nat → Prop) (Q : Ty → Prop) (U : List Addr) (w : World) (e : Ending) (w' : World) : Prop :=
  ∃ d : SD, e = .returned (.pointer (some ⟨d.sb, 0, none⟩)) ∧ Rest w' B S Q U d ∧ d.G = [] ∧ d.AG = [] ∧ Below w.heap.size w w' ∧ ∀ y, SvM d y → w.heap.size ≤ y

set_option maxHeartbeats 2000000 in
set_option maxRecDepth 100000 in
theorem new_any (B : Nat) (S : Nat → Prop) (Q : Ty → Prop) (U : List Addr) (w : World) (hpl : Plb w B S) (hB : B ≤ w.heap.size) (hun : Univ w S Q U) :
    Calls Tryd.prog 43 #[] w (NewRes B S Q U w) := by
  have hmm := @run_makeMap Tryd.prog
  go_enter Tryd.func43, Tryd.ntmps43
  go_wp2
  go_ret
  have hb : Below w.heap.size w (((w.alloc (.map #[] 0)).alloc (.map #[] 0)).alloc (.cells #[.map (some w.heap.size), .map (some (w.heap.size + 1)), .slice none 0 0, .slice none 0 0, .int .i64 0] 84)) :=
    (((Below.refl _ _).alloc (Nat.le_refl _) _).alloc (by simp) _).alloc (by simp; omega) _
  have h1 := alloc3 w (.map #[] 0) (.map #[] 0) (.cells #[.map (some w.heap.size), .map (some (w.heap.size + 1)), .slice none 0 0, .slice none 0 0, .int .i64 0] 84)
  refine ⟨⟨w.heap.size + 1 + 1, w.heap.size, w.heap.size + 1, [], [], [], [], .slice none 0 0, .slice none 0 0, 0⟩, rfl, ⟨⟨⟨by dsimp only; omega, hB, by dsimp only; omega, by dsimp only; omega⟩, h1.2.2, ⟨_, _, h1.1, rfl, Go.MapKept.stamped_empty 0⟩, ⟨_, _, h1.2.1, rfl, Go.MapKept.stamped_empty 0⟩, (fun g hg => by cases hg), (fun g hg => by cases hg), World.ownsRow_nil _ _ _ _, World.ownsRow_nil _ _ _ _⟩, hpl.below (hb.mono hB), Nat.le_trans hB hb.size, hun.keep (hpl.kept (hb.mono hB)), (fun g hg => by cases hg), (fun g hg => by cases hg)⟩, rfl, rfl, hb, ?_⟩
  rintro y (e | e | e | e | e)
  · rw [e]; dsimp only; omega
  · rw [e]; exact Nat.le_refl _
  · rw [e]; dsimp only; omega
  · cases e
  · cases e
end Go.Proofs.YtndhglcdkegigaaDoor
