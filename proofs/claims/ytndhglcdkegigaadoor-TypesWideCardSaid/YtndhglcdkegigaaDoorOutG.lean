/-
  A type that is being made, whose arguments may lie anywhere.
  Conditions: those of each theorem.
-/
import Derived.Test.YtndhglcdkegigaaDoorPutP
namespace Go.Proofs.YtndhglcdkegigaaDoor
open Go.RowKit

structure OutG (P : Nat → Prop) (b : Nat) (n : List UInt8) (ts : List Ty) (ov : Value) (vs : List (Value × Value)) (w : World) : Prop where
  blk : w.heap[b]? = some (.cells #[sv n, ov] 30 (0, 0))
  own : w.ownsRow (b + 1) 30 2 ov ts.length (flat2 vs)
  len : vs.length = ts.length
  each : ∀ (i : Nat) (t : Ty) (p : Value × Value), ts[i]? = some t → vs[i]? = some p → TyIs w (fun x => P x ∧ x < w.heap.size ∧ x ≠ b ∧ some x ≠ ov.ownBlock) t p.1 p.2
theorem OutG.fresh {P : Nat → Prop} {b : Nat} {n : List UInt8} {w : World} (h : w.heap[b]? = some (.cells #[sv n, .slice none 0 0] 30 (0, 0))) : OutG P b n [] (.slice none 0 0) [] w :=
  ⟨h, World.ownsRow_nil w _ _ _, rfl, fun i t p ht => by simp at ht⟩
theorem OutG.below {P : Nat → Prop} {b : Nat} {n : List UInt8} {ts : List Ty} {ov : Value} {vs : List (Value × Value)} {w w' : World} (h : OutG P b n ts ov vs w) (hb : Below w.heap.size w w') : OutG P b n ts ov vs w' :=
  ⟨(hb.block b (lt_of_heap h.blk)).trans h.blk, h.own.kept (grownOfBelow hb) (ownNone _), h.len, fun i t p ht hp => ((h.each i t p ht hp).keep ((kept_below hb).sub fun _ hx => hx.2.1)).more fun _ hx => ⟨hx.1, Nat.lt_of_lt_of_le hx.2.1 hb.size, hx.2.2⟩⟩
theorem OutG.shape {P : Nat → Prop} {b : Nat} {n : List UInt8} {ts : List Ty} {ov : Value} {vs : List (Value × Value)} {w : World} (h : OutG P b n ts ov vs w) : ∃ A c, ov = .slice A ts.length c ∧ ts.length ≤ c ∧ c ≤ maxLen := by
  rcases h.own.2 with ⟨hv, h0⟩ | ⟨g, cap, cur, hv, _, _, h1, h2, _⟩
  · exact ⟨none, 0, by rw [hv, h0], by omega, Nat.zero_le _⟩
  · exact ⟨_, cap, hv, h1, h2⟩
/-- One more argument. -/
theorem OutG.push {P : Nat → Prop} {b : Nat} {n : List UInt8} {ts : List Ty} {ov : Value} {vs : List (Value × Value)} {w w' : World} {t : Ty} {u v : Value} {g cap : Nat} (h : OutG P b n ts ov vs w)
    (ht : TyIs w (fun x => P x ∧ x < w.heap.size ∧ x ≠ b ∧ some x ≠ ov.ownBlock) t u v)
    (hown : w'.ownsRow (b + 1) 30 2 (.slice (some ⟨g, 0, none⟩) (ts.length + 1) cap) (ts.length + 1) (flat2 vs ++ [u, v])) (hg : w.grownBy w' ov.ownBlock) (hat : ov.ownBlock = some g ∨ g = w.heap.size) :
    OutG P b n (ts ++ [t]) (.slice (some ⟨g, 0, none⟩) (ts.length + 1) cap) (vs ++ [(u, v)]) (w'.setCell ⟨b, 1, none⟩ (.slice (some ⟨g, 0, none⟩) (ts.length + 1) cap)) := by
  have hbl := lt_of_heap h.blk
  have hbg : b < g := by have := (hown.lt g rfl).1; omega
  have hbo : some b ≠ ov.ownBlock := fun e => by have := (h.own.lt b e.symm).1; omega
  have hb' : w'.heap[b]? = some (.cells #[sv n, ov] 30 (0, 0)) := (hg.block b hbl hbo).trans h.blk
  have hmv : ∀ {t : Ty} {x y : Value}, TyIs w (fun x => P x ∧ x < w.heap.size ∧ x ≠ b ∧ some x ≠ ov.ownBlock) t x y → TyIs (w'.setCell ⟨b, 1, none⟩ (.slice (some ⟨g, 0, none⟩) (ts.length + 1) cap)) (fun x => P x ∧ x < (w'.setCell ⟨b, 1, none⟩ (.slice (some ⟨g, 0, none⟩) (ts.length + 1) cap)).heap.size ∧ x ≠ b ∧ some x ≠ (Value.slice (some ⟨g, 0, none⟩) (ts.length + 1) cap).ownBlock) t x y := fun hh => by
    refine (hh.keep (Kept.trans (keptGrown hg fun x hx => ⟨hx.2.1, hx.2.2.2⟩) (keptGrown (row := some b) grownSet fun x hx => ⟨Nat.lt_of_lt_of_le hx.2.1 hg.size, fun e => hx.2.2.1 (Option.some.inj e)⟩))).more fun x hx => ⟨hx.1, ?_, hx.2.2.1, ?_⟩
    · rw [sizeSet]; exact Nat.lt_of_lt_of_le hx.2.1 hg.size
    · intro e
      have e' : x = g := Option.some.inj e
      rcases hat with hat | hat
      · exact hx.2.2.2 (by rw [hat, e'])
      · have := hx.2.1; omega
  refine ⟨setCell_heap hb', ?_, by simp [h.len], fun i t' p ht' hp => ?_⟩
  · rw [List.length_append, List.length_singleton, flat2_append]
    exact hown.kept grownSet (.inr (by simp [Value.ownBlock]; omega))
  · rcases Nat.lt_or_ge i ts.length with hi | hi
    · rw [List.getElem?_append_left hi] at ht'
      rw [List.getElem?_append_left (by rw [h.len]; exact hi)] at hp
      exact hmv (h.each i t' p ht' hp)
    · have hi0 : i - ts.length = 0 := by
        have := (List.getElem?_eq_some_iff.1 ht').1
        simp at this
        omega
      rw [List.getElem?_append_right hi, hi0] at ht'
      rw [List.getElem?_append_right (by rw [h.len]; exact hi), h.len, hi0] at hp
      simp at ht' hp
      subst ht' hp
      exact hmv ht
theorem OutG.done {P : Nat → Prop} {b : Nat} {n : List UInt8} {ts : List Ty} {ov : Value} {vs : List (Value × Value)} {w : World} (h : OutG P b n ts ov vs w) (hn : n.length ≤ 4000000) (hz : ts.length ≤ 4000000) (hP : ∀ y, b < y → P y) : TyIs w (fun x => P x ∧ x < w.heap.size ∧ x ≠ b) (.mk n ts) (sv n) ov := by
  obtain ⟨A, c, rfl, h1, h2⟩ := h.shape
  refine Tys.close (vs := vs) ⟨h.len, Row.ofOwn h.own fun g _ h3 h4 => ⟨hP g (by omega), h4, by omega⟩, fun i t p ht hp => (h.each i t p ht hp).more fun x hx => ⟨hx.1, hx.2.1, hx.2.2.1⟩⟩ hn hz ⟨h1, h2⟩
end Go.Proofs.YtndhglcdkegigaaDoor
