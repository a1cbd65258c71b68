/-
  The walk of recompilelaw12.list, and words for types that are made.
  Conditions: those of each theorem.
-/
import Derived.Test.YtiijlecidepneaaBm
import Derived.Test.YtiijlecidepneaaHoldsE
namespace Go.Proofs.Ytiijlecidepneaa
open Go.RowKit

def listName : List UInt8 := [76, 105, 115, 116]
def pairName : List UInt8 := [80, 97, 105, 114]

/-- A type with one or two arguments, in a row of their own. -/
theorem ty_lit {w : World} {b : Nat} {S : Nat → Prop} {n : List UInt8} {ts : List Ty} {vs : List (Value × Value)} {T : TypeId} {m : Nat} (h : w.heap[b]? = some (.cells (flat2 vs).toArray T (0, 0))) (hS : S b) (hn : n.length ≤ 4000000) (hl : vs.length = ts.length) (hz : ts.length ≤ 1000) (hm : ts.length = m)
    (he : ∀ (i : Nat) (t : Ty) (p : Value × Value), ts[i]? = some t → vs[i]? = some p → TyIs w S t p.1 p.2) : TyIs w S (.mk n ts) (sv n) (.slice (some ⟨b, 0, none⟩) m m) := by
  subst hm
  exact Tys.close ⟨hl, row_heap h rfl hS, he⟩ (by omega) (by omega) ⟨Nat.le_refl _, by unfold maxLen; omega⟩

set_option maxHeartbeats 4000000 in
set_option maxRecDepth 100000 in
theorem list_any (t : Ty) (u v : Value) (S : Nat → Prop) (w : World) (hS : ∀ b, S b → b < w.heap.size) (ht : TyIs w S t u v) :
    Calls Try.prog 12 #[.agg #[u, v]] w fun e w' => ∃ v', e = .returned (.agg #[sv listName, v']) ∧ TyIs w' (fun y => S y ∨ Fr w.heap.size w'.heap.size y) (.mk listName [t]) (sv listName) v' ∧ Below w.heap.size w w' := by
  obtain ⟨n, a, rfl, rfl⟩ := ht.shape
  have HT := Lib.hid ht
  clear ht
  go_enter Try.func12, Try.ntmps12
  go_wp2
  refine bodyPost_ret (v := .agg #[sv listName, .slice (some ⟨w.heap.size + 1 + 1, 0, none⟩) 1 1]) (by simp [results, Try.results12, go_sem]; rfl) rfl ?_
  refine ⟨_, rfl, ty_lit (vs := [(sv n, .slice a.1 a.2.1 a.2.2)]) (alloc3 _ _ _ _).2.2 (.inr ⟨by omega, by simp⟩) (by decide) rfl (by simp) rfl fun i t' p ht' hp => ?_, (((Below.refl _ _).alloc (Nat.le_refl _) _).alloc (by simp) _).alloc (by simp; omega) _⟩
  match i, ht', hp with
  | 0, ht', hp =>
    simp at ht' hp
    subst ht' hp
    refine (HT.out.keep (kept_below ((((Below.refl w.heap.size w).alloc (Nat.le_refl _) _).alloc (by simp) _).alloc (by simp; omega) _) |>.sub fun b hb => hS b hb)).more fun b hb => .inl hb
  | i + 1, ht', hp => simp at ht'

theorem leaf_is (w : World) (S : Nat → Prop) (n : List UInt8) (h : n.length ≤ 1000) : TyIs w S (.mk n []) (sv n) (.slice none 0 0) := .mk n [] none 0 [] (by omega) (Nat.zero_le _) ⟨Nat.le_refl _, Nat.zero_le _⟩ rfl (Row.nil _ _ _) (fun i t p h => by simp at h)
end Go.Proofs.Ytiijlecidepneaa
