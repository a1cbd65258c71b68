/-
  Rows of trees that are being made.
  Conditions: those of each theorem.
-/
import Derived.Test.YtiijlecidepneaaCkD
import Derived.Test.YtiijlecidepneaaCkF
import Derived.Test.YtiijlecidepneaaAwake
import Derived.Test.YtiijlecidepneaaDice
namespace Go.Proofs.Ytiijlecidepneaa
open Go.RowKit

theorem tr_leaf (w : World) (S : Nat → Prop) (k a : Int) (x : List UInt8) (hk : I64 k) (ha : I64 a) (hx : x.length ≤ 140737488355328) : TrIs w S (.mk k x a []) (.slice none 0 0) := .mk k x a [] none 0 hk ha hx (by simp) ⟨by simp, by decide⟩ (fun _ => rfl) (Row.nil _ _ _) fun i p h => by simp at h
theorem trC_one (p : Tr × Value) (h : ∃ w S, TrIs w S p.1 p.2) : ∀ v ∈ trC p, v.oneCell' = true := fun v hv => by
  obtain ⟨w, S, h⟩ := h
  obtain ⟨A, c, ps, hp, _⟩ := h.open_
  simp only [trC, hp, List.mem_cons, List.not_mem_nil, or_false] at hv
  rcases hv with rfl | rfl | rfl | rfl <;> rfl
theorem infoTr : (Try.prog.info? 25).map (fun i => (i.zero, i.size, i.bytes)) = some (some (.agg #[.int .i64 0, .string ⟨#[]⟩, .int .i64 0, .slice none 0 0]), 4, 56) := by kernel_rfl
theorem infoKn : (Try.prog.info? 41).map (fun i => (i.zero, i.size, i.bytes)) = some (some (.agg #[.string ⟨#[]⟩, .int .i64 0, .slice none 0 0, .slice none 0 0, .slice none 0 0, .string ⟨#[]⟩, .slice none 0 0, .string ⟨#[]⟩]), 8, 152) := by kernel_rfl
/-- A row of trees of its own; what the trees reach lies in X and elsewhere than the row. -/
structure TRow (w : World) (B : Nat) (X : Nat → Prop) (kv : Value) (ps : List (Tr × Value)) : Prop where
  own : w.ownsRow B 25 4 kv ps.length (flt trC ps)
  each : ∀ (i : Nat) (p : Tr × Value), ps[i]? = some p → TrIs w (fun x => X x ∧ x < w.heap.size ∧ some x ≠ kv.ownBlock) p.1 p.2
theorem TRow.none (w : World) (B : Nat) (X : Nat → Prop) : TRow w B X (.slice none 0 0) [] := ⟨World.ownsRow_nil _ _ _ _, fun i p h => by simp at h⟩
theorem TRow.kp {w w' : World} {B : Nat} {X M : Nat → Prop} {kv : Value} {ps : List (Tr × Value)} (h : TRow w B X kv ps) (hk : Kp M w w') (hM : ∀ y, X y → ¬ M y) (hr : ∀ g, kv.ownBlock = some g → ¬ M g) : TRow w' B X kv ps :=
  ⟨hk.own h.own hr, fun i p hp => ((h.each i p hp).keep (hk.kept fun x hx => ⟨hx.2.1, hM x hx.1⟩)).more fun x hx => ⟨hx.1, Nat.lt_of_lt_of_le hx.2.1 hk.size, hx.2.2⟩⟩
theorem TRow.push {w w' : World} {B : Nat} {X : Nat → Prop} {kv kv' : Value} {ps : List (Tr × Value)} {p : Tr × Value} (h : TRow w B X kv ps) (ht : TrIs w (fun x => X x ∧ x < w.heap.size ∧ some x ≠ kv.ownBlock) p.1 p.2)
    (hown : w'.ownsRow B 25 4 kv' (ps.length + 1) (flt trC ps ++ trC p)) (hg : w.grownBy w' kv.ownBlock) (hat : kv'.ownBlock = kv.ownBlock ∨ kv'.ownBlock = some w.heap.size) : TRow w' B X kv' (ps ++ [p]) := by
  have hk : Kp (fun y => kv.ownBlock = some y) w w' := (Kp.refl _ _).grown hg fun r hr _ => hr
  have hne : ∀ y, some y ≠ kv.ownBlock → y < w.heap.size → some y ≠ kv'.ownBlock := fun y h1 h2 e => by
    rcases hat with h3 | h3
    · exact h1 (e.trans h3)
    · rw [h3] at e
      injection e
      omega
  have hgo : ∀ {t : Tr} {v : Value}, TrIs w (fun x => X x ∧ x < w.heap.size ∧ some x ≠ kv.ownBlock) t v → TrIs w' (fun x => X x ∧ x < w'.heap.size ∧ some x ≠ kv'.ownBlock) t v := fun h =>
    (h.keep (hk.kept fun y hy => ⟨hy.2.1, fun e => hy.2.2 e.symm⟩)).more fun y hy => ⟨hy.1, Nat.lt_of_lt_of_le hy.2.1 hk.size, hne y hy.2.2 hy.2.1⟩
  refine ⟨by rw [List.length_append, flt_append, flt_one]; exact hown, fun i q hq => ?_⟩
  rcases Nat.lt_trichotomy i ps.length with hi | hi | hi
  · rw [List.getElem?_append_left hi] at hq
    exact hgo (h.each i q hq)
  · subst hi
    rw [List.getElem?_append_right (Nat.le_refl _)] at hq
    simp at hq
    subst hq
    exact hgo ht
  · have := (List.getElem?_eq_some_iff.1 hq).1
    simp at this
    omega
/-- The last tree is another one. -/
theorem TRow.last {w w' : World} {B : Nat} {X : Nat → Prop} {kv : Value} {ps : List (Tr × Value)} {p0 p : Tr × Value} (h : TRow w B X kv (ps ++ [p0])) (hk : Kp (fun y => kv.ownBlock = some y) w w') (ht : TrIs w (fun x => X x ∧ x < w.heap.size ∧ some x ≠ kv.ownBlock) p.1 p.2)
    (hown : w'.ownsRow B 25 4 kv (ps.length + 1) (flt trC ps ++ trC p)) : TRow w' B X kv (ps ++ [p]) := by
  have hgo : ∀ {t : Tr} {v : Value}, TrIs w (fun x => X x ∧ x < w.heap.size ∧ some x ≠ kv.ownBlock) t v → TrIs w' (fun x => X x ∧ x < w'.heap.size ∧ some x ≠ kv.ownBlock) t v := fun h =>
    (h.keep (hk.kept fun y hy => ⟨hy.2.1, fun e => hy.2.2 e.symm⟩)).more fun y hy => ⟨hy.1, Nat.lt_of_lt_of_le hy.2.1 hk.size, hy.2.2⟩
  refine ⟨by rw [List.length_append, flt_append, flt_one]; exact hown, fun i q hq => ?_⟩
  rcases Nat.lt_trichotomy i ps.length with hi | hi | hi
  · rw [List.getElem?_append_left hi] at hq
    exact hgo (h.each i q (by rw [List.getElem?_append_left hi]; exact hq))
  · subst hi
    rw [List.getElem?_append_right (Nat.le_refl _)] at hq
    simp at hq
    subst hq
    exact hgo ht
  · have := (List.getElem?_eq_some_iff.1 hq).1
    simp at this
    omega
theorem own_set {w : World} {base : Nat} {e : TypeId} {size n c g i : Nat} {xs : List Value} (v : Value) (h : w.ownsRow base e size (.slice (some ⟨g, 0, none⟩) n c) n xs) : (w.setCell ⟨g, i, none⟩ v).ownsRow base e size (.slice (some ⟨g, 0, none⟩) n c) n (xs.set i v) := by
  refine ⟨by rw [List.length_set]; exact h.1, ?_⟩
  rcases h.2 with ⟨hv, _⟩ | ⟨g', cap, cur, hv, hb, hg, h1, h2, h3, h4⟩
  · cases hv
  · obtain ⟨e1, _, rfl⟩ := Value.slice.inj hv
    obtain rfl : g = g' := by injection e1 with e1; injection e1
    exact .inr ⟨g, c, cur.setIfInBounds i v, rfl, hb, setCell_heap hg, h1, h2, by rw [Array.size_setIfInBounds]; exact h3, by rw [Array.toList_setIfInBounds, List.take_set, h4]⟩
theorem set_end {A : List Value} {a b c d : Value} {n : Nat} (hn : n = A.length) (a' b' c' d' : Value) : ((((A ++ [a, b, c, d]).set n a').set (n + 1) b').set (n + 2) c').set (n + 3) d' = A ++ [a', b', c', d'] := by
  subst hn
  rw [List.set_append_right _ _ (Nat.le_refl _), List.set_append_right _ _ (by omega), List.set_append_right _ _ (by omega), List.set_append_right _ _ (by omega)]
  simp
/-- A tree whose kids are a row of its own. -/
theorem TRow.tree {w : World} {B : Nat} {X : Nat → Prop} {A : Option Addr} {n c : Nat} {ps : List (Tr × Value)} (h : TRow w B X (.slice A n c) ps) (hn : n = ps.length) (k a : Int) (x : List UInt8) (hk : I64 k) (ha : I64 a) (hx : x.length ≤ 140737488355328) (hz : ps.length ≤ 3518437208883) (S : Nat → Prop) (hS : ∀ y, X y → y < w.heap.size → S y) (hB : ∀ y, B ≤ y → y < w.heap.size → S y) : TrIs w S (.mk k x a (ps.map (·.1))) (.slice A n c) := by
  subst hn
  obtain ⟨_, _, e, hA⟩ := own_slice h.own
  obtain ⟨rfl, _, rfl⟩ := Value.slice.inj e
  exact .mk k x a ps A c hk ha hx hz (own_le h.own) hA (Row.ofOwn h.own fun g _ h1 h2 => hB g h1 h2) fun i p hp => (h.each i p hp).more fun y hy => hS y hy.1 hy.2.1
/-- Three kids in one block. -/
theorem three_kids {w : World} {b : Nat} {S : Nat → Prop} (p0 p1 p2 : Tr × Value) (hb : w.heap[b]? = some (.cells (flt trC [p0, p1, p2]).toArray 25 (0, 0))) (h0 : TrIs w S p0.1 p0.2) (h1 : TrIs w S p1.1 p1.2) (h2 : TrIs w S p2.1 p2.2) (hS : S b) (k a : Int) (x : List UInt8) (hk : I64 k) (ha : I64 a) (hx : x.length ≤ 140737488355328) : TrIs w S (.mk k x a [p0.1, p1.1, p2.1]) (.slice (some ⟨b, 0, none⟩) 3 3) :=
  .mk k x a [p0, p1, p2] (some ⟨b, 0, none⟩) 3 hk ha hx (by simp) ⟨by simp, by decide⟩ (fun e => by cases e) (row_heap hb (by simp) hS) fun i p hp => by
    rcases i with _ | _ | _ | i
    · simp at hp; subst hp; exact h0
    · simp at hp; subst hp; exact h1
    · simp at hp; subst hp; exact h2
    · simp at hp
theorem one_kid {w : World} {b : Nat} {S : Nat → Prop} (p0 : Tr × Value) (hb : w.heap[b]? = some (.cells (trC p0).toArray 25 (0, 0))) (h0 : TrIs w S p0.1 p0.2) (hS : S b) (k a : Int) (x : List UInt8) (hk : I64 k) (ha : I64 a) (hx : x.length ≤ 140737488355328) : TrIs w S (.mk k x a [p0.1]) (.slice (some ⟨b, 0, none⟩) 1 1) :=
  .mk k x a [p0] (some ⟨b, 0, none⟩) 1 hk ha hx (by simp) ⟨by simp, by decide⟩ (fun e => by cases e) (row_heap hb (by simp [flt]) hS) fun i p hp => by
    rcases i with _ | i
    · simp at hp; subst hp; exact h0
    · simp at hp
end Go.Proofs.Ytiijlecidepneaa
