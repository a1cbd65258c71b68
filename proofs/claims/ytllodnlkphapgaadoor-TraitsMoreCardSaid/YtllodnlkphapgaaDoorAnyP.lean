/-
  All pointers that are in play in a slice of equations (the part of Unv that no law's function is in).
  Conditions: those of each theorem.
  Equations in whatever order (plain): all are kept or not, and what the solutions make has one size.
  Conditions: those of each theorem.
-/
import Derived.Test.YtllodnlkphapgaaDoorSolve
import Derived.Test.YtllodnlkphapgaaDoorMatchC
import Derived.Test.YtllodnlkphapgaaDoorApp
namespace Go.Proofs.YtllodnlkphapgaaDoor
section
open Go.RowKit
abbrev Eqn := Ty × Ty
/-! ### All pointers -/

/-- A list of pointers to types, closed under arguments. -/
structure Ptrs (w : World) (S : Nat → Prop) (Q : Ty → Prop) (U : List Addr) : Prop where
  ty : ∀ q ∈ U, ∃ t, PtTy w S q t ∧ Q t
  arg : ∀ q ∈ U, ∀ (ad : Addr) (n c i : Nat), w.cell? ⟨q.block, q.off + 1, none⟩ = some (.slice (some ad) n c) → i < n → ad.add (i * 2) ∈ U
theorem Ptrs.nil (w : World) (S : Nat → Prop) (Q : Ty → Prop) : Ptrs w S Q [] := ⟨fun q hq => (by cases hq), fun q hq => (by cases hq)⟩
theorem Ptrs.join {w : World} {S : Nat → Prop} {Q : Ty → Prop} {U V : List Addr} (h : Ptrs w S Q U) (h' : Ptrs w S Q V) : Ptrs w S Q (U ++ V) := by
  refine ⟨fun q hq => ?_, fun q hq ad n c i he hi => ?_⟩
  · rcases List.mem_append.1 hq with hq | hq
    · exact h.ty q hq
    · exact h'.ty q hq
  · rcases List.mem_append.1 hq with hq | hq
    · exact List.mem_append.2 (.inl (h.arg q hq ad n c i he hi))
    · exact List.mem_append.2 (.inr (h'.arg q hq ad n c i he hi))
theorem ptrs_of {w : World} {S : Nat → Prop} {Q : Ty → Prop} (hQ : Down Q) (t : Ty) : ∀ p, PtTy w S p t → Q t → ∃ U, p ∈ U ∧ U.length ≤ t.size ∧ Ptrs w S Q U := by
  induction t using Ty.ind with | h n ks ih => ?_
  intro p hp hq
  obtain ⟨A, c, hS, e0, e1, _, _, _, harg⟩ := hp.cells
  simp only [Ty.args] at e1 harg
  have key : ∀ k, k ≤ ks.length → ∃ U, U.length ≤ sizeL (ks.take k) ∧ Ptrs w S Q U ∧ ∀ i, i < k → ∀ ad, A = some ad → ad.add (i * 2) ∈ U := by
    intro k
    induction k with
    | zero => exact fun _ => ⟨[], by simp [sizeL], Ptrs.nil _ _ _, fun i hi => by omega⟩
    | succ k ihk =>
      intro hk
      obtain ⟨U, h1, h2, h3⟩ := ihk (by omega)
      have hki : k < ks.length := by omega
      obtain ⟨ad, hA, hpa⟩ := harg k _ (List.getElem?_eq_getElem hki)
      obtain ⟨V, g1, g2, g3⟩ := ih ks[k] (List.getElem_mem hki) _ hpa (hQ.arg _ _ hq (List.getElem_mem hki))
      refine ⟨U ++ V, ?_, h2.join g3, fun i hi ad' hA' => ?_⟩
      · rw [List.take_succ_eq_append_getElem hki, sizeL_append, List.length_append]
        simp only [sizeL]
        omega
      · rw [List.mem_append]
        rcases Nat.lt_or_ge i k with hlt | hge
        · exact .inl (h3 i hlt ad' hA')
        · obtain rfl : i = k := by omega
          obtain rfl := Option.some.inj (hA.symm.trans hA')
          exact .inr g1
  obtain ⟨U, h1, h2, h3⟩ := key ks.length (Nat.le_refl _)
  rw [List.take_of_length_le (Nat.le_refl _)] at h1
  refine ⟨p :: U, by simp, ?_, ⟨fun q hq' => ?_, fun q hq' ad m c' i he hi => ?_⟩⟩
  · simp only [List.length_cons, Ty.size]
    omega
  · rcases List.mem_cons.1 hq' with rfl | hq'
    · exact ⟨_, hp, hq⟩
    · exact h2.ty q hq'
  · rcases List.mem_cons.1 hq' with rfl | hq'
    · rw [e1] at he
      obtain ⟨rfl, rfl, _⟩ := Value.slice.inj (Option.some.inj he)
      exact List.mem_cons_of_mem _ (h3 i hi ad rfl)
    · exact List.mem_cons_of_mem _ (h2.arg q hq' ad m c' i he hi)

def eqSize (E : List Eqn) : Nat := (E.map fun x => x.1.size + x.2.size).sum
theorem eqs_of {w : World} {S : Nat → Prop} {Q : Ty → Prop} (hQ : Down Q) (A : Option Addr) (E : List Eqn) (hE : ∀ (i : Nat) (x : Eqn), E[i]? = some x → Q x.1 ∧ Q x.2 ∧ ∃ ad, A = some ad ∧ PtTy w S (ad.add (i * 4)) x.1 ∧ PtTy w S ⟨(ad.add (i * 4)).block, (ad.add (i * 4)).off + 2, none⟩ x.2) :
    ∃ U, U.length ≤ eqSize E ∧ Univ w S Q U ∧ Eqs w S U A E := by
  have key : ∀ k, k ≤ E.length → ∃ U, U.length ≤ eqSize (E.take k) ∧ Ptrs w S Q U ∧ ∀ i, i < k → ∀ ad, A = some ad → ad.add (i * 4) ∈ U ∧ (⟨(ad.add (i * 4)).block, (ad.add (i * 4)).off + 2, none⟩ : Addr) ∈ U := by
    intro k
    induction k with
    | zero => exact fun _ => ⟨[], by simp, Ptrs.nil _ _ _, fun i hi => by omega⟩
    | succ k ihk =>
      intro hk
      obtain ⟨U, h1, h2, h3⟩ := ihk (by omega)
      have hki : k < E.length := by omega
      obtain ⟨q1, q2, ad, hA, hpa, hpb⟩ := hE k _ (List.getElem?_eq_getElem hki)
      obtain ⟨V, g1, g2, g3⟩ := ptrs_of hQ _ _ hpa q1
      obtain ⟨V', g1', g2', g3'⟩ := ptrs_of hQ _ _ hpb q2
      refine ⟨U ++ (V ++ V'), ?_, h2.join (g3.join g3'), fun i hi ad' hA' => ?_⟩
      · rw [List.take_succ_eq_append_getElem hki]
        simp only [eqSize, List.map_append, List.sum_append, List.map_cons, List.map_nil, List.sum_cons, List.sum_nil, List.length_append] at h1 ⊢
        omega
      · rw [List.mem_append, List.mem_append, List.mem_append, List.mem_append]
        rcases Nat.lt_or_ge i k with hlt | hge
        · exact ⟨.inl (h3 i hlt ad' hA').1, .inl (h3 i hlt ad' hA').2⟩
        · obtain rfl : i = k := by omega
          obtain rfl := Option.some.inj (hA.symm.trans hA')
          exact ⟨.inr (.inl g1), .inr (.inr g1')⟩
  obtain ⟨U, h1, h2, h3⟩ := key E.length (Nat.le_refl _)
  rw [List.take_of_length_le (Nat.le_refl _)] at h1
  refine ⟨U, h1, ⟨h2.ty, h2.arg⟩, ⟨fun i x hx => ?_⟩⟩
  obtain ⟨_, _, ad, hA, hpa, hpb⟩ := hE i x hx
  have hi := (List.getElem?_eq_some_iff.1 hx).1
  exact ⟨ad, hA, hpa, hpb, h3 i hi ad hA⟩
end

section
open Go.RowKit
theorem drops_nil : ∀ (rs : List Bool) (s : Nat), drops rs s = [] ↔ ∀ r ∈ rs, r = true
  | [], s => by simp [drops]
  | r :: rs, s => by
    have := drops_nil rs (s + 1)
    cases r with
    | true => simpa [drops] using this
    | false => simp [drops]
theorem Chain.full {E : List (Ty × Ty)} {rs : List Bool} {G : Gv} (h : Chain E rs G) : ∀ θ : Nat → Ty, (∀ x ∈ E, sub θ x.1 = sub θ x.2) → (∀ r ∈ rs, r = true) ∧ Sat θ (solOf G) := by
  induction h with
  | nil => exact fun θ _ => ⟨fun r hr => (by cases hr), fun k u hk => (by cases hk)⟩
  | @snoc E rs G G' t u r h hs ih =>
    intro θ hE
    obtain ⟨h1, h2⟩ := ih θ fun x hx => hE x (List.mem_append.2 (.inl hx))
    obtain ⟨h3, h4⟩ := hs.full θ h2 (hE (t, u) (by simp))
    refine ⟨fun b hb => ?_, h4⟩
    rcases List.mem_append.1 hb with hb | hb
    · exact h1 b hb
    · rw [List.mem_singleton.1 hb]
      exact h3
theorem SoundE.all {E : List (Ty × Ty)} {rs : List Bool} {G : Gv} (h : SoundE E rs G) (hl : rs.length = E.length) (hr : ∀ r ∈ rs, r = true) {θ : Nat → Ty} (hθ : Sat θ (solOf G)) : ∀ x ∈ E, sub θ x.1 = sub θ x.2 := by
  intro x hx
  obtain ⟨i, hi⟩ := List.mem_iff_getElem?.1 hx
  have hlt := (List.getElem?_eq_some_iff.1 hi).1
  have e : rs[i]? = some rs[i] := List.getElem?_eq_getElem (by omega)
  exact h i x hi (by rw [e, hr _ (List.getElem_mem _)]) θ hθ
theorem order_kept {E M : List (Ty × Ty)} {rs rs' : List Bool} {G G' : Gv} (hc : Chain E rs G) (hc' : Chain M rs' G') (hs : SoundE E rs G) (hm : ∀ x ∈ M, x ∈ E) (h0 : ∀ r ∈ rs, r = true) : (∀ r ∈ rs', r = true) ∧ ∀ θ, Sat θ (solOf G) → Sat θ (solOf G') := by
  have key : ∀ θ, Sat θ (solOf G) → (∀ r ∈ rs', r = true) ∧ Sat θ (solOf G') := fun θ hθ => hc'.full θ fun x hx => hs.all hc.len h0 hθ x (hm x hx)
  obtain ⟨ρ, hr⟩ := hc.rank
  obtain ⟨θ, hθ⟩ := appl_ex hr
  exact ⟨(key θ hθ.sat).1, fun θ hθ => (key θ hθ).2⟩
/-- All are kept in the one order if they are in the other; then what the solutions make has one size. -/
theorem any_order {E M : List (Ty × Ty)} {rs rs' : List Bool} {G G' : Gv} (hc : Chain E rs G) (hc' : Chain M rs' G') (hs : SoundE E rs G) (hs' : SoundE M rs' G') (hm : ∀ x, x ∈ E ↔ x ∈ M) :
    ((drops rs 0).length = 0 ↔ (drops rs' 0).length = 0) ∧ ((drops rs 0).length = 0 → ∀ θ φ : Nat → Ty, Appl (solOf G) θ → Appl (solOf G') φ → ∀ t, (sub θ t).size = (sub φ t).size) := by
  have e1 : ∀ rs : List Bool, (drops rs 0).length = 0 ↔ ∀ r ∈ rs, r = true := fun rs => by rw [List.length_eq_zero_iff]; exact drops_nil rs 0
  rw [e1, e1]
  have k1 := order_kept hc hc' hs (fun x hx => (hm x).2 hx)
  have k2 := order_kept hc' hc hs' (fun x hx => (hm x).1 hx)
  refine ⟨⟨fun h => (k1 h).1, fun h => (k2 h).1⟩, fun h θ φ hθ hφ t => ?_⟩
  obtain ⟨h1, h2⟩ := k1 h
  obtain ⟨_, h3⟩ := k2 h1
  obtain ⟨ρ, hr⟩ := hc.rank
  obtain ⟨π, hp⟩ := hc'.rank
  exact appl_size hr hp hθ hφ (h3 φ hφ.sat) (h2 θ hθ.sat) t
end
end Go.Proofs.YtllodnlkphapgaaDoor
