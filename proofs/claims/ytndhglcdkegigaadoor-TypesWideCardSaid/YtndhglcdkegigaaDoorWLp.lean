/-
  The equations of types that double: their names, and what Solve makes of them.
  Conditions: fewer than 100 of them, in plain blocks.
  The equations of types that double, in memory: one more of them.
  Conditions: those of each theorem.
-/
import Derived.Test.YtndhglcdkegigaaDoorWPl
import Derived.Test.YtndhglcdkegigaaDoorCEq
import Derived.Test.YtndhglcdkegigaaDoorWNod
import Derived.Test.YtndhglcdkegigaaDoorDice
import Derived.Test.YtndhglcdkegigaaDoorAwk
namespace Go.Proofs.YtndhglcdkegigaaDoor
section
open Go.RowKit
/-- Variables below 100, and P of two such. -/
inductive WTy : Ty → Prop
  | v (j : Nat) (h : j < 100) : WTy (tyV j)
  | p (a b : Ty) (ha : WTy a) (hb : WTy b) : WTy (wPTy a b)
theorem wty_down : DownN WTy := by
  refine ⟨⟨fun t h => ?_, fun t a h ha => ?_⟩, fun t h => ?_⟩
  · cases h with
    | v j h => exact .inr ⟨j, h, rfl⟩
    | p a b _ _ => exact .inl (by simp [wPTy, Ty.name, wPName, vnum])
  · cases h with
    | v j h => simp [Ty.args] at ha
    | p x y hx hy =>
      simp only [wPTy, Ty.args, List.mem_cons, List.not_mem_nil, or_false] at ha
      rcases ha with rfl | rfl
      · exact hx
      · exact hy
  · cases h with
    | v j h => simp [Ty.name, vname]
    | p a b _ _ => simp [wPTy, Ty.name, wPName]
theorem wty_clean : CleanQ WTy := by
  intro t h
  cases h with
  | v j h => simp [Ty.name, vname, brk]
  | p a b _ _ => simp [wPTy, Ty.name, wPName, brk]
theorem wEq_at {k i : Nat} (h : i < k) : (wEqs k)[i]? = some (wEq i) := by
  unfold wEqs
  rw [List.getElem?_map, List.getElem?_range h]
  rfl
theorem wEqs_len (k : Nat) : (wEqs k).length = k := by simp [wEqs]
theorem wEq_ty {k : Nat} (hk : k < 99) : ∀ x ∈ wEqs k, WTy x.1 ∧ WTy x.2 ∧ x.1.size ≤ 7 ∧ x.2.size ≤ 7 := by
  intro x hx
  obtain ⟨i, hi, rfl⟩ := List.mem_map.1 hx
  have hik := List.mem_range.1 hi
  exact ⟨.v i (by omega), .p _ _ (.v _ (by omega)) (.v _ (by omega)), by simp [wEq, tyV, Ty.size, sizeL], by simp [wEq, wPTy, tyV, Ty.size, sizeL]⟩
theorem wEq_size : ∀ (E : List Eqn), (∀ x ∈ E, x.1.size ≤ 7 ∧ x.2.size ≤ 7) → eqSize E ≤ 14 * E.length
  | [], _ => by simp [eqSize]
  | x :: r, h => by
    have h1 := h x (by simp)
    have h2 := wEq_size r fun y hy => h y (by simp [hy])
    simp only [eqSize, List.map_cons, List.sum_cons, List.length_cons] at h2 ⊢
    omega
theorem wsolve_any (k : Nat) (A : Option Addr) (c : Nat) (vs : List EV) (w : World) (hR : EqRow w A (wEqs k) vs) (hk : k < 99) :
    Calls Tryd.prog 22 #[.slice A k c] w (SolRes WTy (wEqs k) w) := by
  obtain ⟨U, h1, h2, h3⟩ := eqs_of (w := w) (S := PlS w) wty_down.toDown A (wEqs k) fun i x hx => by
    obtain ⟨ad, _, _, _, _, hA, _, _, _, _, _, _, p1, p2⟩ := hR.at_ hx
    have := wEq_ty hk x (List.mem_of_getElem? hx)
    exact ⟨this.1, this.2.1, ad, hA, p1, p2⟩
  have := wEq_size (wEqs k) fun x hx => (wEq_ty hk x hx).2.2
  have hl := wEqs_len k
  have := solve_any w.heap.size (PlS w) WTy wty_down U (by omega) (wEqs k) A c w ⟨fun b hb => hb.1, fun b hb => hb.2⟩ (Nat.le_refl _) h2 h3 (by omega)
  rwa [hl] at this
end

section
open Go.RowKit
/-- The values of an equation: b is the block of the two arguments. -/
def wEV (i b : Nat) : EV := ((sv (vname i), .slice none 0 0), (sv wPName, .slice (some ⟨b, 0, none⟩) 2 2))
structure WqAt (lo k : Nat) (lv : Value) (vs : List EV) (w : World) : Prop where
  own : w.ownsRow lo 47 4 lv k (flat4 vs)
  len : vs.length = k
  each : ∀ (i : Nat) (p : EV), vs[i]? = some p → EqIs w (fun y => lo ≤ y ∧ y < w.heap.size ∧ some y ≠ lv.ownBlock ∧ PlainB w y) (wEq i) p
theorem WqAt.nil (lo : Nat) (w : World) : WqAt lo 0 (.slice none 0 0) [] w := ⟨World.ownsRow_nil _ _ _ _, rfl, fun i p hp => by simp at hp⟩
theorem WqAt.below {lo k : Nat} {lv : Value} {vs : List EV} {w w' : World} (h : WqAt lo k lv vs w) (hb : Below w.heap.size w w') : WqAt lo k lv vs w' := by
  have hk : Kp (fun _ => False) w w' := Kp.ofBelow hb
  refine ⟨hk.own h.own (fun _ _ e => e), h.len, fun i p hp => ?_⟩
  exact ((h.each i p hp).keep (hk.kept fun b hb => ⟨hb.2.1, fun e => e⟩)).more fun b hb' => ⟨hb'.1, Nat.lt_of_lt_of_le hb'.2.1 hb.size, hb'.2.2.1, hb'.2.2.2.same (hb.block b hb'.2.1)⟩
theorem WqAt.shape {lo k : Nat} {lv : Value} {vs : List EV} {w : World} (h : WqAt lo k lv vs w) : ∃ A c, lv = .slice A k c ∧ k ≤ c ∧ c ≤ maxLen := by
  rcases h.own.2 with ⟨hv, h0⟩ | ⟨g, cap, cur, hv, _, _, h1, h2, _⟩
  · exact ⟨none, 0, by rw [hv, h0], by omega, Nat.zero_le _⟩
  · exact ⟨_, cap, hv, h1, h2⟩
theorem WqAt.row {lo k c : Nat} {A : Option Addr} {vs : List EV} {w : World} (h : WqAt lo k (.slice A k c) vs w) : EqRow w A (wEqs k) vs := by
  refine ⟨by rw [h.len, wEqs_len], Row.ofOwn h.own fun g hg h3 h4 => ⟨h4, ?_⟩, fun i x p hx hp => ?_⟩
  · subst hg
    obtain ⟨cs, hcs⟩ := row_block h.own (g := g) rfl
    exact ⟨cs, _, hcs⟩
  · have hi : i < k := by
      have := (List.getElem?_eq_some_iff.1 hp).1
      rw [h.len] at this
      exact this
    rw [wEq_at hi] at hx
    obtain rfl := Option.some.inj hx
    exact (h.each i p hp).more fun y hy => ⟨hy.2.1, hy.2.2.2⟩
/-- One more equation. -/
theorem WqAt.push {lo k : Nat} {lv : Value} {vs : List EV} {w w' : World} {p : EV} {g cap : Nat} (h : WqAt lo k lv vs w) (hx : EqIs w (fun y => lo ≤ y ∧ y < w.heap.size ∧ some y ≠ lv.ownBlock ∧ PlainB w y) (wEq k) p)
    (hown : w'.ownsRow lo 47 4 (.slice (some ⟨g, 0, none⟩) (k + 1) cap) (k + 1) (flat4 vs ++ [p.1.1, p.1.2, p.2.1, p.2.2])) (hg : w.grownBy w' lv.ownBlock) (hat : lv.ownBlock = some g ∨ w.heap.size ≤ g) :
    WqAt lo (k + 1) (.slice (some ⟨g, 0, none⟩) (k + 1) cap) (vs ++ [p]) w' := by
  have mv : ∀ {i : Nat} {p : EV}, EqIs w (fun y => lo ≤ y ∧ y < w.heap.size ∧ some y ≠ lv.ownBlock ∧ PlainB w y) (wEq i) p → EqIs w' (fun y => lo ≤ y ∧ y < w'.heap.size ∧ some y ≠ (Value.slice (some ⟨g, 0, none⟩) (k + 1) cap).ownBlock ∧ PlainB w' y) (wEq i) p := fun hh => by
    refine (hh.keep (keptGrown hg fun y hy => ⟨hy.2.1, hy.2.2.1⟩)).more fun y hy => ⟨hy.1, Nat.lt_of_lt_of_le hy.2.1 hg.size, fun e => ?_, hy.2.2.2.same (hg.block y hy.2.1 hy.2.2.1)⟩
    have e' : y = g := Option.some.inj e
    rcases hat with hat | hat
    · exact hy.2.2.1 (by rw [hat, e'])
    · have := hy.2.1; omega
  refine ⟨by rw [flat4_append]; exact hown, by simp [h.len], fun i q hq => ?_⟩
  rcases Nat.lt_or_ge i k with hi | hi
  · rw [List.getElem?_append_left (by rw [h.len]; exact hi)] at hq
    exact mv (h.each i q hq)
  · have hi0 : i - k = 0 := by
      have := (List.getElem?_eq_some_iff.1 hq).1
      simp [h.len] at this
      omega
    rw [List.getElem?_append_right (by rw [h.len]; exact hi), h.len, hi0] at hq
    simp at hq
    subst hq
    obtain rfl : i = k := by omega
    exact mv hx
/-- The types of an equation, just laid: its two arguments at b. -/
theorem wEV_is {w : World} {S : Nat → Prop} {i b : Nat} (hi : i < 99) (hb : w.heap[b]? = some (.cells #[sv (vname (i + 1)), .slice none 0 0, sv (vname (i + 1)), .slice none 0 0] 30 (0, 0))) (hS : S b) : EqIs w S (wEq i) (wEV i b) := by
  have hn : ∀ j, j < 100 → (vname j).length ≤ 4000000 := fun j hj => by have := dec_len hj; simp [vname]; omega
  have h1 : ∀ j, j < 100 → TyIs w S (tyV j) (sv (vname j)) (.slice none 0 0) := fun j hj => (Tys.nil w S none).close (hn j hj) (Nat.zero_le _) ⟨Nat.le_refl _, Nat.zero_le _⟩
  refine ⟨h1 i (by omega), ?_⟩
  have hT : Tys w S (some ⟨b, 0, none⟩) [tyV (i + 1), tyV (i + 1)] [(sv (vname (i + 1)), .slice none 0 0), (sv (vname (i + 1)), .slice none 0 0)] := by
    refine ⟨rfl, .inr ⟨_, rfl, hS, fun j u hu => World.news_of_block (cs := #[sv (vname (i + 1)), .slice none 0 0, sv (vname (i + 1)), .slice none 0 0]) hb j u hu⟩, fun j t p ht hp => ?_⟩
    match j with
    | 0 => simp at ht hp; subst ht hp; exact h1 (i + 1) (by omega)
    | 1 => simp at ht hp; subst ht hp; exact h1 (i + 1) (by omega)
    | j + 2 => simp at ht
  exact hT.close (by decide) (by simp) ⟨Nat.le_refl _, by unfold maxLen; simp⟩
end
end Go.Proofs.YtndhglcdkegigaaDoor
