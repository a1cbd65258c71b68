/-
  Clean equations: what Solve wants of a row of them.
  Conditions: those of each theorem.
-/
import Derived.Test.YtndhglcdkegigaaDoorUnv
import Derived.Test.YtndhglcdkegigaaDoorCtr
namespace Go.Proofs.YtndhglcdkegigaaDoor
open Go.RowKit

def CEq (x : Eqn) : Prop := CTy x.1 ∧ CTy x.2 ∧ x.1.size ≤ 7 ∧ x.2.size ≤ 7
theorem ceq_size : ∀ (E : List Eqn), (∀ x ∈ E, CEq x) → eqSize E ≤ 14 * E.length
  | [], _ => by simp [eqSize]
  | x :: r, h => by
    have h1 := h x (by simp)
    have h2 := ceq_size r fun y hy => h y (by simp [hy])
    unfold CEq at h1
    simp only [eqSize, List.map_cons, List.sum_cons, List.length_cons] at h2 ⊢
    omega
/-- Plain blocks. -/
abbrev PlS (w : World) (y : Nat) : Prop := y < w.heap.size ∧ PlainB w y
/-- A row of equations in plain blocks. -/
structure EqRow (w : World) (A : Option Addr) (E : List Eqn) (vs : List EV) : Prop where
  len : vs.length = E.length
  row : Row w (PlS w) A (flat4 vs)
  each : ∀ (i : Nat) (x : Eqn) (p : EV), E[i]? = some x → vs[i]? = some p → EqIs w (PlS w) x p
theorem EqAt.row {lo n c : Nat} {E : List Eqn} {A : Option Addr} {vs : List EV} {w : World} (h : EqAt lo n E (.slice A n c) vs w) (hn : E.length = n) : EqRow w A E vs := by
  have hown := h.own
  rw [hn] at hown
  refine ⟨h.len, Row.ofOwn hown fun g hg h3 h4 => ⟨h4, ?_⟩, fun i x p hx hp => (h.each i x p hx hp).more fun y hy => ⟨hy.2.1, hy.2.2.2 (by have := (List.getElem?_eq_some_iff.1 hx).1; omega)⟩⟩
  subst hg
  obtain ⟨cs, hcs⟩ := row_block hown (g := g) rfl
  exact ⟨cs, _, hcs⟩
theorem EqRow.below {w w' : World} {A : Option Addr} {E : List Eqn} {vs : List EV} (h : EqRow w A E vs) (hb : Below w.heap.size w w') : EqRow w' A E vs := by
  have hm : ∀ y, PlS w y → PlS w' y := fun y hy => ⟨Nat.lt_of_lt_of_le hy.1 hb.size, hy.2.same (hb.block y hy.1)⟩
  have hk : Kept (PlS w) w w' := (kept_below hb).sub fun y hy => hy.1
  exact ⟨h.len, (h.row.keep hk).more hm, fun i x p hx hp => ((h.each i x p hx hp).keep hk).more hm⟩
theorem EqRow.at_ {w : World} {A : Option Addr} {E : List Eqn} {vs : List EV} {i : Nat} {x : Eqn} (h : EqRow w A E vs) (hx : E[i]? = some x) :
    ∃ (ad : Addr) (n m : List UInt8) (a b : Option Addr × Nat × Nat), A = some ad ∧ ad.block < w.heap.size ∧ w.cell? (ad.add (i * 4)) = some (sv n) ∧ w.cell? ⟨(ad.add (i * 4)).block, (ad.add (i * 4)).off + 1, none⟩ = some (.slice a.1 a.2.1 a.2.2) ∧
      w.cell? ⟨(ad.add (i * 4)).block, (ad.add (i * 4)).off + 2, none⟩ = some (sv m) ∧ w.cell? ⟨(ad.add (i * 4)).block, (ad.add (i * 4)).off + 2 + 1, none⟩ = some (.slice b.1 b.2.1 b.2.2) ∧
      EqIs w (PlS w) x ((sv n, .slice a.1 a.2.1 a.2.2), (sv m, .slice b.1 b.2.1 b.2.2)) ∧ PtTy w (PlS w) (ad.add (i * 4)) x.1 ∧ PtTy w (PlS w) ⟨(ad.add (i * 4)).block, (ad.add (i * 4)).off + 2, none⟩ x.2 := by
  have hi := (List.getElem?_eq_some_iff.1 hx).1
  have hp : vs[i]? = some (vs[i]'(by rw [h.len]; exact hi)) := List.getElem?_eq_getElem _
  have hE := h.each i x _ hx hp
  obtain ⟨r0, r1, r2, r3⟩ := flat4_at _ _ _ hp
  obtain ⟨n, m, a, b, hpe⟩ := hE.shape
  rw [hpe] at hE r0 r1 r2 r3
  dsimp only at r0 r1 r2 r3
  obtain ⟨ad, hA, hS, c0⟩ := h.row.at_ r0
  have hAd : ∀ {j u}, (flat4 vs)[j]? = some u → w.cell? (ad.add j) = some u := fun hj => by
    obtain ⟨ad', hA', _, c⟩ := h.row.at_ hj
    obtain rfl := Option.some.inj (hA.symm.trans hA')
    exact c
  have c1 := hAd r1
  have c2 := hAd r2
  have c3 := hAd r3
  rw [← addAdd] at c1 c2 c3
  have e3 : (ad.add (i * 4)).add 3 = ⟨(ad.add (i * 4)).block, (ad.add (i * 4)).off + 2 + 1, none⟩ := by rw [Nat.add_assoc]; rfl
  rw [e3] at c3
  have hSb : PlS w (ad.add (i * 4)).block := by rw [blkAdd]; exact hS
  exact ⟨ad, n, m, a, b, hA, hS.1, c0, c1, c2, c3, hE, ⟨_, _, hSb, c0, c1, hE.1⟩, ⟨_, _, hSb, c2, c3, hE.2⟩⟩
/-- Solving clean equations. -/
theorem csolve_any (E : List Eqn) (A : Option Addr) (c : Nat) (vs : List EV) (w : World) (hR : EqRow w A E vs) (hC : ∀ x ∈ E, CEq x) (hl : E.length ≤ 100) :
    Calls Tryd.prog 22 #[.slice A E.length c] w (SolRes CTy E w) := by
  obtain ⟨U, h1, h2, h3⟩ := eqs_of (w := w) (S := PlS w) cty_down.toDown A E fun i x hx => by
    obtain ⟨ad, _, _, _, _, hA, _, _, _, _, _, _, p1, p2⟩ := hR.at_ hx
    have := hC x (List.mem_of_getElem? hx)
    exact ⟨this.1, this.2.1, ad, hA, p1, p2⟩
  have := ceq_size E hC
  exact solve_any w.heap.size (PlS w) CTy cty_down U (by omega) E A c w ⟨fun b hb => hb.1, fun b hb => hb.2⟩ (Nat.le_refl _) h2 h3 (by omega)
end Go.Proofs.YtndhglcdkegigaaDoor
