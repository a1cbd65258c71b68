/-
  Equations in whatever order (plain): all are kept or not, and what the solutions make has one size.
  Conditions: those of each theorem.
  Types that double (plain).
  Conditions: those of each theorem.
-/
import Derived.Test.YtndhglcdkegigaaDoorApp
namespace Go.Proofs.YtndhglcdkegigaaDoor
section
open Go.RowKit
theorem drops_nil : ∀ (rs : List Bool) (s : Nat), drops rs s = [] ↔ ∀ r ∈ rs, r = true
  | [], s => by simp [drops]
  | r :: rs, s => by
    have := drops_nil rs (s + 1)
    cases r with
    | true => simpa [drops] using this
    | false => simp [drops]
theorem Chain.full {E : List (Ty × Ty)} {rs : List Bool} {G : Gv} (h : Chain E rs G) : ∀ θ : Nat → Ty, (∀ x ∈ E, sub θ x.1 = sub θ x.2) → (∀ r ∈ rs, r = true) ∧ Sat θ (solOf G) := by
  induction h with
  | nil => exact fun θ _ => ⟨fun r hr => (by cases hr), fun k u hk => (by cases hk)⟩
  | @snoc E rs G G' t u r h hs ih =>
    intro θ hE
    obtain ⟨h1, h2⟩ := ih θ fun x hx => hE x (List.mem_append.2 (.inl hx))
    obtain ⟨h3, h4⟩ := hs.full θ h2 (hE (t, u) (by simp))
    refine ⟨fun b hb => ?_, h4⟩
    rcases List.mem_append.1 hb with hb | hb
    · exact h1 b hb
    · rw [List.mem_singleton.1 hb]
      exact h3
theorem SoundE.all {E : List (Ty × Ty)} {rs : List Bool} {G : Gv} (h : SoundE E rs G) (hl : rs.length = E.length) (hr : ∀ r ∈ rs, r = true) {θ : Nat → Ty} (hθ : Sat θ (solOf G)) : ∀ x ∈ E, sub θ x.1 = sub θ x.2 := by
  intro x hx
  obtain ⟨i, hi⟩ := List.mem_iff_getElem?.1 hx
  have hlt := (List.getElem?_eq_some_iff.1 hi).1
  have e : rs[i]? = some rs[i] := List.getElem?_eq_getElem (by omega)
  exact h i x hi (by rw [e, hr _ (List.getElem_mem _)]) θ hθ
theorem order_kept {E M : List (Ty × Ty)} {rs rs' : List Bool} {G G' : Gv} (hc : Chain E rs G) (hc' : Chain M rs' G') (hs : SoundE E rs G) (hm : ∀ x ∈ M, x ∈ E) (h0 : ∀ r ∈ rs, r = true) : (∀ r ∈ rs', r = true) ∧ ∀ θ, Sat θ (solOf G) → Sat θ (solOf G') := by
  have key : ∀ θ, Sat θ (solOf G) → (∀ r ∈ rs', r = true) ∧ Sat θ (solOf G') := fun θ hθ => hc'.full θ fun x hx => hs.all hc.len h0 hθ x (hm x hx)
  obtain ⟨ρ, hr⟩ := hc.rank
  obtain ⟨θ, hθ⟩ := appl_ex hr
  exact ⟨(key θ hθ.sat).1, fun θ hθ => (key θ hθ).2⟩
/-- All are kept in the one order if they are in the other; then what the solutions make has one size. -/
theorem any_order {E M : List (Ty × Ty)} {rs rs' : List Bool} {G G' : Gv} (hc : Chain E rs G) (hc' : Chain M rs' G') (hs : SoundE E rs G) (hs' : SoundE M rs' G') (hm : ∀ x, x ∈ E ↔ x ∈ M) :
    ((drops rs 0).length = 0 ↔ (drops rs' 0).length = 0) ∧ ((drops rs 0).length = 0 → ∀ θ φ : Nat → Ty, Appl (solOf G) θ → Appl (solOf G') φ → ∀ t, (sub θ t).size = (sub φ t).size) := by
  have e1 : ∀ rs : List Bool, (drops rs 0).length = 0 ↔ ∀ r ∈ rs, r = true := fun rs => by rw [List.length_eq_zero_iff]; exact drops_nil rs 0
  rw [e1, e1]
  have k1 := order_kept hc hc' hs (fun x hx => (hm x).2 hx)
  have k2 := order_kept hc' hc hs' (fun x hx => (hm x).1 hx)
  refine ⟨⟨fun h => (k1 h).1, fun h => (k2 h).1⟩, fun h θ φ hθ hφ t => ?_⟩
  obtain ⟨h1, h2⟩ := k1 h
  obtain ⟨_, h3⟩ := k2 h1
  obtain ⟨ρ, hr⟩ := hc.rank
  obtain ⟨π, hp⟩ := hc'.rank
  exact appl_size hr hp hθ hφ (h3 φ hφ.sat) (h2 θ hθ.sat) t
end

section

def wPName : List UInt8 := [97, 58, 58, 80]
def wPTy (a b : Ty) : Ty := .mk wPName [a, b]
/-- The i-th equation. -/
def wEq (i : Nat) : Ty × Ty := (tyV i, wPTy (tyV (i + 1)) (tyV (i + 1)))
def wEqs (k : Nat) : List (Ty × Ty) := (List.range k).map wEq
theorem varOf_wp (a b : Ty) : varOf (wPTy a b) = none := varOf_cons (by simp [wPTy, Ty.args])
def wtow (k : Nat) : Nat → Ty
  | 0 => tyV k
  | n + 1 => wPTy (wtow k n) (wtow k n)
def wSol (k i : Nat) : Ty := if i < k then wtow k (k - i) else tyV i
theorem sub_wv (θ : Nat → Ty) (i : Nat) : sub θ (tyV i) = θ i := sub_var (varOf_tyV i)
theorem sub_wp (θ : Nat → Ty) (a b : Ty) : sub θ (wPTy a b) = wPTy (sub θ a) (sub θ b) := by
  rw [sub_node (varOf_wp a b)]
  rfl
theorem wSol_sat (k : Nat) : ∀ x ∈ wEqs k, sub (wSol k) x.1 = sub (wSol k) x.2 := by
  intro x hx
  obtain ⟨i, hi, rfl⟩ := List.mem_map.1 hx
  have hik := List.mem_range.1 hi
  simp only [wEq, sub_wv, sub_wp]
  unfold wSol
  rw [if_pos hik, show k - i = (k - (i + 1)) + 1 by omega, wtow]
  by_cases h : i + 1 < k
  · rw [if_pos h]
  · obtain rfl : i + 1 = k := by omega
    simp [wtow]
theorem tow_size (k : Nat) : ∀ n, (wtow k n).size + 1 = 2 ^ (n + 1)
  | 0 => rfl
  | n + 1 => by
    have := tow_size k n
    have e : (wtow k (n + 1)).size = 1 + ((wtow k n).size + (wtow k n).size) := by simp [wtow, wPTy, Ty.size, sizeL]
    rw [e, Nat.pow_succ]
    omega
/-- What Solve and Apply make of them. -/
theorem wide_plain {k : Nat} {rs : List Bool} {G : Gv} (hc : Chain (wEqs k) rs G) (hs : SoundE (wEqs k) rs G) {ρ : Ty → Nat} (hr : Rank (solOf G) ρ) {θ : Nat → Ty} (hθ : Appl (solOf G) θ) :
    drops rs 0 = [] ∧ (θ 0).size + 1 = 2 ^ (k + 1) := by
  obtain ⟨h1, h2⟩ := hc.full (wSol k) (wSol_sat k)
  refine ⟨(drops_nil rs 0).2 h1, ?_⟩
  have hE := hs.all hc.len h1 hθ.sat
  have step : ∀ i, i < k → (θ i).size = 1 + 2 * (θ (i + 1)).size := fun i hi => by
    have := hE (wEq i) (List.mem_map.2 ⟨i, List.mem_range.2 hi, rfl⟩)
    simp only [wEq, sub_wv, sub_wp] at this
    rw [this]
    simp [wPTy, Ty.size, sizeL]
    omega
  have low : ∀ n i, i + n = k → 2 ^ (n + 1) ≤ (θ i).size + 1 := by
    intro n
    induction n with
    | zero => intro i _; have := size_pos (θ i); simp; omega
    | succ n ih =>
      intro i hi
      have h3 := ih (i + 1) (by omega)
      have h4 := step i (by omega)
      rw [Nat.pow_succ]
      omega
  have h5 := low k 0 (by omega)
  have h6 := size_sub (wSol k) (sub θ (tyV 0))
  rw [hθ.inst hr h2 (ρ (tyV 0)) (tyV 0) (Nat.le_refl _), sub_wv, sub_wv] at h6
  have h7 : (wSol k 0).size + 1 ≤ 2 ^ (k + 1) := by
    unfold wSol
    split
    · rw [Nat.sub_zero, tow_size]
      exact Nat.le_refl _
    · obtain rfl : k = 0 := by omega
      exact Nat.le_refl _
  omega
end
end Go.Proofs.YtndhglcdkegigaaDoor
