/-
  Names and types of arguments while they are gathered: two rows of one's own.
  Conditions: those of each theorem.
-/
import Derived.Test.YtiijlecidepneaaSigB
namespace Go.Proofs.Ytiijlecidepneaa
open Go.RowKit

/-- The kids that are arguments. -/
def argK (ps : List (Tr × Value)) : List (Tr × Value) := ps.filter fun p => decide (p.1.kind = 13)
def argN (ps : List (Tr × Value)) : List (List UInt8) := (argK ps).map fun p => p.1.text
def argT (ps : List (Tr × Value)) : List Ty := (argK ps).map fun p => tyOf (kidT p.1 0)
theorem argK_yes {ps : List (Tr × Value)} {k : Nat} {q : Tr × Value} (h : ps[k]? = some q) (hk : q.1.kind = 13) : argK (ps.take (k + 1)) = argK (ps.take k) ++ [q] := by
  unfold argK
  rw [List.take_add_one, h, List.filter_append]
  simp [hk]
theorem argK_no {ps : List (Tr × Value)} {k : Nat} {q : Tr × Value} (h : ps[k]? = some q) (hk : ¬ q.1.kind = 13) : argK (ps.take (k + 1)) = argK (ps.take k) := by
  unfold argK
  rw [List.take_add_one, h, List.filter_append]
  simp [hk]
theorem argK_len (ps : List (Tr × Value)) (k : Nat) : (argK (ps.take k)).length ≤ k := Nat.le_trans (List.length_filter_le _ _) (List.length_take_le _ _)
structure ArgSt (B : Nat) (ns : List (List UInt8)) (ts : List Ty) (nv tv : Value) (vs : List (Value × Value)) (w : World) : Prop where
  names : w.ownsRow B 9 1 nv ns.length (ns.map sv)
  own : w.ownsRow B 35 2 tv ts.length (flat2 vs)
  len : vs.length = ts.length
  each : ∀ (i : Nat) (t : Ty) (p : Value × Value), ts[i]? = some t → vs[i]? = some p → TyIs w (fun x => B ≤ x ∧ x < w.heap.size ∧ some x ≠ tv.ownBlock ∧ some x ≠ nv.ownBlock) t p.1 p.2
  ne : ∀ g, nv.ownBlock = some g → tv.ownBlock ≠ some g
theorem ArgSt.none (B : Nat) (w : World) : ArgSt B [] [] (.slice none 0 0) (.slice none 0 0) [] w := ⟨World.ownsRow_nil _ _ _ _, World.ownsRow_nil _ _ _ _, rfl, fun i t p h => by simp at h, fun g h => by cases h⟩
theorem ArgSt.below {B : Nat} {ns : List (List UInt8)} {ts : List Ty} {nv tv : Value} {vs : List (Value × Value)} {w w' : World} (h : ArgSt B ns ts nv tv vs w) (hb : Below w.heap.size w w') : ArgSt B ns ts nv tv vs w' := by
  have hk := Kp.ofBelow (M := fun _ => False) hb
  exact ⟨hk.own h.names fun _ _ e => e, hk.own h.own fun _ _ e => e, h.len, fun i t p ht hp => ((h.each i t p ht hp).keep (hk.kept fun x hx => ⟨hx.2.1, fun e => e⟩)).more fun x hx => ⟨hx.1, Nat.lt_of_lt_of_le hx.2.1 hb.size, hx.2.2⟩, h.ne⟩
/-- A name more. -/
theorem ArgSt.name {B : Nat} {ns : List (List UInt8)} {ts : List Ty} {nv nv' tv : Value} {vs : List (Value × Value)} {w w' : World} {x : List UInt8} (h : ArgSt B ns ts nv tv vs w)
    (hown : w'.ownsRow B 9 1 nv' (ns.length + 1) (ns.map sv ++ [sv x])) (hg : w.grownBy w' nv.ownBlock) (hat : nv'.ownBlock = nv.ownBlock ∨ nv'.ownBlock = some w.heap.size) : ArgSt B (ns ++ [x]) ts nv' tv vs w' := by
  have hk : Kp (fun y => nv.ownBlock = some y) w w' := (Kp.refl _ _).grown hg fun r hr _ => hr
  have htl := h.own.lt
  have hne : ∀ y, some y ≠ nv.ownBlock → y < w.heap.size → some y ≠ nv'.ownBlock := fun y h1 h2 e => by
    rcases hat with h3 | h3
    · exact h1 (e.trans h3)
    · rw [h3] at e
      injection e
      omega
  refine ⟨by rw [List.length_append, List.map_append]; exact hown, hk.own h.own fun g hg e => h.ne g e hg, h.len, fun i t p ht hp => ?_, fun g hg e => ?_⟩
  · exact ((h.each i t p ht hp).keep (hk.kept fun y hy => ⟨hy.2.1, fun e => hy.2.2.2 e.symm⟩)).more fun y hy => ⟨hy.1, Nat.lt_of_lt_of_le hy.2.1 hk.size, hy.2.2.1, hne y hy.2.2.2 hy.2.1⟩
  · exact hne g (fun e2 => h.ne g e2.symm e) (htl g e).2 hg.symm
/-- A type more. -/
theorem ArgSt.typ {B : Nat} {ns : List (List UInt8)} {ts : List Ty} {nv tv tv' : Value} {vs : List (Value × Value)} {w w' : World} {t : Ty} {u v : Value} (h : ArgSt B ns ts nv tv vs w)
    (ht : TyIs w (fun x => B ≤ x ∧ x < w.heap.size ∧ some x ≠ tv.ownBlock ∧ some x ≠ nv.ownBlock) t u v)
    (hown : w'.ownsRow B 35 2 tv' (ts.length + 1) (flat2 vs ++ [u, v])) (hg : w.grownBy w' tv.ownBlock) (hat : tv'.ownBlock = tv.ownBlock ∨ tv'.ownBlock = some w.heap.size) : ArgSt B ns (ts ++ [t]) nv tv' (vs ++ [(u, v)]) w' := by
  have hk : Kp (fun y => tv.ownBlock = some y) w w' := (Kp.refl _ _).grown hg fun r hr _ => hr
  have hnl := h.names.lt
  have hne : ∀ y, some y ≠ tv.ownBlock → y < w.heap.size → some y ≠ tv'.ownBlock := fun y h1 h2 e => by
    rcases hat with h3 | h3
    · exact h1 (e.trans h3)
    · rw [h3] at e
      injection e
      omega
  have hgo : ∀ {t : Ty} {u v : Value}, TyIs w (fun x => B ≤ x ∧ x < w.heap.size ∧ some x ≠ tv.ownBlock ∧ some x ≠ nv.ownBlock) t u v → TyIs w' (fun x => B ≤ x ∧ x < w'.heap.size ∧ some x ≠ tv'.ownBlock ∧ some x ≠ nv.ownBlock) t u v := fun h =>
    (h.keep (hk.kept fun y hy => ⟨hy.2.1, fun e => hy.2.2.1 e.symm⟩)).more fun y hy => ⟨hy.1, Nat.lt_of_lt_of_le hy.2.1 hk.size, hne y hy.2.2.1 hy.2.1, hy.2.2.2⟩
  refine ⟨hk.own h.names fun g hg e => h.ne g hg e, by rw [flat2_append, List.length_append]; exact hown, by simp [h.len], fun i t' p ht' hp => ?_, fun g hg e => ?_⟩
  · rcases Nat.lt_trichotomy i ts.length with hi | hi | hi
    · rw [List.getElem?_append_left hi] at ht'
      rw [List.getElem?_append_left (by rw [h.len]; exact hi)] at hp
      exact hgo (h.each i t' p ht' hp)
    · subst hi
      rw [List.getElem?_append_right (Nat.le_refl _)] at ht'
      rw [List.getElem?_append_right (by rw [h.len]; exact Nat.le_refl _)] at hp
      simp [h.len] at ht' hp
      subst ht' hp
      exact hgo ht
    · have := (List.getElem?_eq_some_iff.1 ht').1
      simp at this
      omega
  · exact hne g (fun e2 => h.ne g hg e2.symm) (hnl g hg).2 e.symm
def ArgLRes (ps : List (Tr × Value)) (w : World) (e : Ending) (w' : World) : Prop := ∃ nv tv vs, e = .returned (.tuple #[nv, tv]) ∧ ArgSt w.heap.size (argN ps) (argT ps) nv tv vs w' ∧ Below w.heap.size w w'
theorem infoS : (Try.prog.info? 9).map (fun i => (i.zero, i.size, i.bytes)) = some (some (.string ⟨#[]⟩), 1, 16) := by kernel_rfl
end Go.Proofs.Ytiijlecidepneaa
