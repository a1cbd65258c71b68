/-
  A type that is being made in new memory, all of it in plain blocks.
  Conditions: those of each theorem.
-/
import Derived.Test.YtndhglcdkegigaaDoorCop
import Derived.Test.YtndhglcdkegigaaDoorOcc
namespace Go.Proofs.YtndhglcdkegigaaDoor
open Go.RowKit

def FrP (w : World) (lo : Nat) (x : Nat) : Prop := lo ≤ x ∧ x < w.heap.size ∧ PlainB w x
/-- A type in new memory was returned, in plain blocks; what was there is as it was. -/
def MadeP (t : Ty) (w : World) (e : Ending) (w' : World) : Prop :=
  ∃ u v, e = .returned (.agg #[u, v]) ∧ TyIs w' (FrP w' w.heap.size) t u v ∧ Below w.heap.size w w'
theorem FrP.kept {w w' : World} {lo : Nat} (hb : Below w.heap.size w w') : ∀ x, FrP w lo x → FrP w' lo x := fun x hx => ⟨hx.1, Nat.lt_of_lt_of_le hx.2.1 hb.size, hx.2.2.same (hb.block x hx.2.1)⟩
theorem TyIs.plainNow {w w' : World} {lo : Nat} {t : Ty} {u v : Value} (h : TyIs w (FrP w lo) t u v) (hb : Below w.heap.size w w') : TyIs w' (FrP w' lo) t u v :=
  (h.keep fun _ hp => hb.cell hp.2.1).more (FrP.kept hb)

structure OutP (b : Nat) (n : List UInt8) (ts : List Ty) (ov : Value) (vs : List (Value × Value)) (w : World) : Prop where
  blk : w.heap[b]? = some (.cells #[sv n, ov] 30 (0, 0))
  own : w.ownsRow (b + 1) 30 2 ov ts.length (flat2 vs)
  len : vs.length = ts.length
  each : ∀ (i : Nat) (t : Ty) (p : Value × Value), ts[i]? = some t → vs[i]? = some p → TyIs w (fun x => b < x ∧ x < w.heap.size ∧ some x ≠ ov.ownBlock ∧ PlainB w x) t p.1 p.2

def OutPs (b : Nat) (n : List UInt8) (ts : List Ty) (w : World) : Prop := ∃ (ov : Value) (vs : List (Value × Value)), OutP b n ts ov vs w

theorem OutP.kept {b : Nat} {n : List UInt8} {ts : List Ty} {ov : Value} {vs : List (Value × Value)} {w w' : World} {row : Option Nat} (h : OutP b n ts ov vs w) (hg : w.grownBy w' row) (h1 : row = none ∨ ∃ r, row = some r ∧ r < b) : OutP b n ts ov vs w' := by
  have hlt := lt_of_heap h.blk
  have hne : ∀ x, b ≤ x → some x ≠ row := fun x hx e => by
    rcases h1 with h1 | ⟨r, h1, h2⟩
    · rw [h1] at e; cases e
    · rw [h1] at e; injection e; omega
  refine ⟨(hg.block b hlt (hne b (Nat.le_refl _))).trans h.blk, h.own.kept hg ?_, h.len, fun i t p ht hp => ?_⟩
  · rcases hv : ov.ownBlock with _ | g
    · exact .inl rfl
    · exact .inr (hne g (by have := (h.own.lt g hv).1; omega))
  · exact ((h.each i t p ht hp).keep (keptGrown hg fun x hx => ⟨hx.2.1, hne x (by omega)⟩)).more fun x ⟨h5, h6, h7, h8⟩ => ⟨h5, Nat.lt_of_lt_of_le h6 hg.size, h7, h8.same (hg.block x h6 (hne x (by omega)))⟩
theorem OutP.shape {b : Nat} {n : List UInt8} {ts : List Ty} {ov : Value} {vs : List (Value × Value)} {w : World} (h : OutP b n ts ov vs w) : ∃ (a : Option Addr × Nat × Nat), ov = .slice a.1 a.2.1 a.2.2 := by
  rcases h.own.2 with ⟨hv, _⟩ | ⟨g, cap, cur, hv, _⟩
  · exact ⟨(none, 0, 0), hv⟩
  · exact ⟨(some ⟨g, 0, none⟩, ts.length, cap), hv⟩
theorem plain_set {w : World} {x : Nat} {p : Addr} {v : Value} (h : PlainB w x) : PlainB (w.setCell p v) x := by
  obtain ⟨cs, T, hc⟩ := h
  by_cases hp : p.block = x
  · subst hp
    unfold World.setCell
    cases hs : p.spot.isSome with
    | false => exact ⟨cs.setIfInBounds p.off v, T, by simp [Array.getElem?_modify, hc]⟩
    | true => exact ⟨cs, T, by simp [Array.getElem?_modify, hc]⟩
  · exact ⟨cs, T, (Below.heap_setCell w _ _ x (fun e => hp e.symm)).trans hc⟩
/-- One more argument. -/
theorem OutP.push {b : Nat} {n : List UInt8} {ts : List Ty} {ov : Value} {vs : List (Value × Value)} {w w' : World} {t : Ty} {u v : Value} {g cap : Nat} (h : OutP b n ts ov vs w)
    (ht : TyIs w (fun x => b < x ∧ x < w.heap.size ∧ some x ≠ ov.ownBlock ∧ PlainB w x) t u v)
    (hown : w'.ownsRow (b + 1) 30 2 (.slice (some ⟨g, 0, none⟩) (ts.length + 1) cap) (ts.length + 1) (flat2 vs ++ [u, v])) (hg : w.grownBy w' ov.ownBlock) (hat : ov.ownBlock = some g ∨ g = w.heap.size) :
    OutPs b n (ts ++ [t]) (w'.setCell ⟨b, 1, none⟩ (.slice (some ⟨g, 0, none⟩) (ts.length + 1) cap)) := by
  have hbl := lt_of_heap h.blk
  have hbg : b < g := by have := (hown.lt g rfl).1; omega
  have hbo : some b ≠ ov.ownBlock := fun e => by have := (h.own.lt b e.symm).1; omega
  have hb' : w'.heap[b]? = some (.cells #[sv n, ov] 30 (0, 0)) := (hg.block b hbl hbo).trans h.blk
  have hfar : ∀ x, b < x ∧ x < w.heap.size ∧ some x ≠ ov.ownBlock ∧ PlainB w x → b < x ∧ x < (w'.setCell ⟨b, 1, none⟩ (.slice (some ⟨g, 0, none⟩) (ts.length + 1) cap)).heap.size ∧ some x ≠ some g ∧ PlainB (w'.setCell ⟨b, 1, none⟩ (.slice (some ⟨g, 0, none⟩) (ts.length + 1) cap)) x := fun x ⟨h1, h2, h3, h4⟩ => by
    refine ⟨h1, by rw [sizeSet]; exact Nat.lt_of_lt_of_le h2 hg.size, fun e => ?_, plain_set (h4.same (hg.block x h2 h3))⟩
    injection e with e
    rcases hat with hat | hat
    · exact h3 (by rw [hat, e])
    · omega
  have hkeep : Kept (fun x => b < x ∧ x < w.heap.size ∧ some x ≠ ov.ownBlock ∧ PlainB w x) w (w'.setCell ⟨b, 1, none⟩ (.slice (some ⟨g, 0, none⟩) (ts.length + 1) cap)) :=
    Kept.trans (keptGrown hg fun x hx => ⟨hx.2.1, hx.2.2.1⟩) (keptGrown grownSet fun x hx => ⟨Nat.lt_of_lt_of_le hx.2.1 hg.size, fun e => by injection e; omega⟩)
  refine ⟨_, vs ++ [(u, v)], setCell_heap hb', ?_, by simp [h.len], fun i t' p ht' hp => ?_⟩
  · rw [flat2_append, List.length_append]
    exact hown.kept grownSet (.inr (by simp [Value.ownBlock]; omega))
  · refine TyIs.more (S := fun x => b < x ∧ x < w.heap.size ∧ some x ≠ ov.ownBlock ∧ PlainB w x) ?_ hfar
    refine TyIs.keep ?_ hkeep
    rcases Nat.lt_trichotomy i ts.length with hi | hi | hi
    · rw [List.getElem?_append_left hi] at ht'
      rw [List.getElem?_append_left (by rw [h.len]; exact hi)] at hp
      exact h.each i t' p ht' hp
    · subst hi
      rw [List.getElem?_append_right (Nat.le_refl _)] at ht'
      rw [List.getElem?_append_right (by rw [h.len]; exact Nat.le_refl _)] at hp
      simp [h.len] at ht' hp
      subst ht' hp
      exact ht
    · have := (List.getElem?_eq_some_iff.1 ht').1
      simp at this
      omega
/-- The type is made. -/
theorem OutP.done {b : Nat} {n : List UInt8} {ts : List Ty} {ov : Value} {vs : List (Value × Value)} {w : World} (h : OutP b n ts ov vs w) (hn : n.length ≤ 4000000) (hz : ts.length ≤ 4000000) : TyIs w (fun x => b < x ∧ x < w.heap.size ∧ PlainB w x) (.mk n ts) (sv n) ov := by
  have hc : ∃ (A : Option Addr) (c : Nat), ov = .slice A ts.length c ∧ ts.length ≤ c ∧ c ≤ maxLen := by
    rcases h.own.2 with ⟨hv, h0⟩ | ⟨g, cap, cur, hv, _, _, h1, h2, _⟩
    · exact ⟨none, 0, by rw [hv, h0], by omega, Nat.zero_le _⟩
    · exact ⟨_, cap, hv, h1, h2⟩
  obtain ⟨A, c, rfl, h1, h2⟩ := hc
  refine Tys.close (vs := vs) ⟨h.len, Row.ofOwn h.own fun g hg h3 h4 => ⟨by omega, h4, ?_⟩, fun i t p ht hp => (h.each i t p ht hp).more fun x hx => ⟨hx.1, hx.2.1, hx.2.2.2⟩⟩ hn hz ⟨h1, h2⟩
  subst hg
  obtain ⟨cs, hcs⟩ := row_block h.own (g := g) rfl
  exact ⟨cs, _, hcs⟩
theorem OutPs.fresh {b : Nat} {n : List UInt8} {w : World} (h : w.heap[b]? = some (.cells #[sv n, .slice none 0 0] 30 (0, 0))) : OutPs b n [] w :=
  ⟨_, [], h, World.ownsRow_nil w _ _ _, rfl, fun i t p ht => by simp at ht⟩
end Go.Proofs.YtndhglcdkegigaaDoor
