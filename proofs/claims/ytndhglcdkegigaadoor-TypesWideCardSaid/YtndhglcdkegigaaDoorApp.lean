/-
  What a solution makes of a type (plain): substitutions that solve it and leave what is free as it is.
  Conditions: those of each theorem.
-/
import Derived.Test.YtndhglcdkegigaaDoorChain
import Derived.Test.YtndhglcdkegigaaDoorMatchC
namespace Go.Proofs.YtndhglcdkegigaaDoor

abbrev tyV (n : Nat) : Ty := .mk (vname n) []
theorem varOf_tyV (n : Nat) : varOf (tyV n) = some n := by simp [varOf, vnum_name]
theorem good_tyV {t : Ty} {k : Nat} (hg : GoodN t.name) (h : varOf t = some k) : t = tyV k := by
  obtain ⟨n, ks⟩ := t
  cases ks with
  | cons a r => simp [varOf] at h
  | nil =>
    simp only [varOf] at h
    simp only [Ty.name] at hg
    rcases hg with hg | ⟨j, _, rfl⟩
    · rw [hg] at h
      cases h
    · rw [vnum_name] at h
      cases h
      rfl

/-- It solves a solution, and leaves what is free as it is. -/
structure Appl (σ : Sol) (θ : Nat → Ty) : Prop where
  sat : Sat θ σ
  free : ∀ k, σ k = none → θ k = tyV k

def appF (σ : Sol) : Nat → Ty → Ty
  | 0, t => t
  | n + 1, t => match varOf t with
    | some k => match σ k with
      | some u => appF σ n u
      | none => tyV k
    | none => .mk t.name (t.args.map (appF σ n))
theorem appF_sub {σ : Sol} {ρ : Ty → Nat} (hr : Rank σ ρ) : ∀ (m n : Nat) (t : Ty), ρ t ≤ m → ρ t < n → appF σ n t = sub (fun k => appF σ (ρ (tyV k) + 1) (tyV k)) t := by
  intro m
  induction m using Nat.strongRecOn with | ind m ih => ?_
  intro n t hm hn
  obtain ⟨n, rfl⟩ : ∃ n', n = n' + 1 := ⟨n - 1, by omega⟩
  cases hv : varOf t with
  | some k =>
    rw [sub_var hv, appF, appF, hv, varOf_tyV]
    simp only
    cases hs : σ k with
    | none => rfl
    | some u =>
      have h1 := hr.given t k u hv hs
      have h2 := hr.given (tyV k) k u (varOf_tyV k) hs
      simp only
      rw [ih (ρ u) (by omega) n u (Nat.le_refl _) (by omega), ih (ρ u) (by omega) _ u (Nat.le_refl _) h2]
  | none =>
    rw [sub_node hv, appF, hv]
    simp only
    congr 1
    apply List.map_congr_left
    intro a ha
    have h1 := hr.arg t a ha
    exact ih (ρ a) (by omega) n a (Nat.le_refl _) (by omega)
theorem appl_ex {σ : Sol} {ρ : Ty → Nat} (hr : Rank σ ρ) : ∃ θ, Appl σ θ := by
  refine ⟨fun k => appF σ (ρ (tyV k) + 1) (tyV k), fun k u hk => ?_, fun k hk => ?_⟩
  · have h2 := hr.given (tyV k) k u (varOf_tyV k) hk
    show appF σ (ρ (tyV k) + 1) (tyV k) = _
    rw [appF, varOf_tyV]
    simp only [hk]
    exact appF_sub hr _ _ u (Nat.le_refl _) h2
  · show appF σ (ρ (tyV k) + 1) (tyV k) = _
    rw [appF, varOf_tyV]
    simp only [hk]
/-- Whatever solves a solution is made of what it makes. -/
theorem Appl.inst {σ : Sol} {ρ : Ty → Nat} (hr : Rank σ ρ) {θ θ' : Nat → Ty} (h : Appl σ θ) (hs : Sat θ' σ) : ∀ (m : Nat) (t : Ty), ρ t ≤ m → sub θ' (sub θ t) = sub θ' t := by
  intro m
  induction m using Nat.strongRecOn with | ind m ih => ?_
  intro t hm
  cases hv : varOf t with
  | some k =>
    rw [sub_var hv, sub_var hv]
    cases hk : σ k with
    | none => rw [h.free k hk, sub_var (varOf_tyV k)]
    | some u =>
      have h1 := hr.given t k u hv hk
      rw [h.sat k u hk, hs k u hk]
      exact ih (ρ u) (by omega) u (Nat.le_refl _)
  | none =>
    have hv' : varOf (.mk t.name (t.args.map (sub θ))) = none := by
      obtain ⟨n, ks⟩ := t
      cases ks with
      | nil => exact hv
      | cons a r => rfl
    rw [sub_node hv, sub_node hv', sub_node hv]
    simp only [Ty.name, Ty.args, List.map_map]
    congr 1
    apply List.map_congr_left
    intro a ha
    have h1 := hr.arg t a ha
    exact ih (ρ a) (by omega) a (Nat.le_refl _)
theorem size_map_le {f : Ty → Ty} : ∀ (l : List Ty), (∀ a ∈ l, a.size ≤ (f a).size) → sizeL l ≤ sizeL (l.map f)
  | [], _ => Nat.le_refl _
  | a :: r, h => by
    have h1 := h a (by simp)
    have h2 := size_map_le r fun b hb => h b (by simp [hb])
    simp only [List.map_cons, sizeL]
    omega
theorem size_sub (θ : Nat → Ty) (t : Ty) : t.size ≤ (sub θ t).size := by
  induction t using Ty.ind with | h n ks ih => ?_
  cases hv : varOf (.mk n ks) with
  | some k =>
    have hz := varOf_args hv
    simp only [Ty.args] at hz
    subst hz
    have := size_pos (sub θ (.mk n []))
    simp only [Ty.size, sizeL]
    omega
  | none =>
    rw [sub_node hv]
    have := size_map_le (f := sub θ) ks ih
    simp only [Ty.size, Ty.args]
    omega
/-- Two solutions of which each solves the other make types of one size. -/
theorem appl_size {σ τ : Sol} {ρ π : Ty → Nat} (hr : Rank σ ρ) (hp : Rank τ π) {θ φ : Nat → Ty} (h : Appl σ θ) (h' : Appl τ φ) (h1 : Sat φ σ) (h2 : Sat θ τ) (t : Ty) : (sub θ t).size = (sub φ t).size := by
  have e1 := h.inst hr h1 _ t (Nat.le_refl _)
  have e2 := h'.inst hp h2 _ t (Nat.le_refl _)
  have a1 := size_sub φ (sub θ t)
  have a2 := size_sub θ (sub φ t)
  rw [e1] at a1
  rw [e2] at a2
  omega

/-- The solution that a list is. -/
def solv (L : List Ty) : Sol := fun n => match L[n]? with
  | some (.mk [] []) => none
  | o => o
theorem solv_some {L : List Ty} {n : Nat} {u : Ty} (h : solv L n = some u) : L[n]? = some u ∧ u ≠ .mk [] [] := by
  unfold solv at h
  split at h
  · cases h
  · refine ⟨h, fun e => ?_⟩
    subst e
    rename_i h'
    exact h' h
theorem solv_none {L : List Ty} {n : Nat} (h : solv L n = none) : L[n]? = none ∨ L[n]? = some (.mk [] []) := by
  unfold solv at h
  split at h
  · right; assumption
  · exact .inl h
theorem solv_of {L : List Ty} {n : Nat} {u : Ty} (h : L[n]? = some u) (hu : u ≠ .mk [] []) : solv L n = some u := by
  unfold solv
  split
  · rename_i h'
    rw [h] at h'
    exact absurd (Option.some.inj h') hu
  · exact h
theorem solv_solL {G : Gv} (hn : ∀ g ∈ G, g.2.2.name ≠ []) : solv (solL G) = solOf G := by
  funext n
  have hl : (solL G)[n]? = if n < solLen G then some (solAt G n) else none := by
    unfold solL
    rw [List.getElem?_map]
    split
    · rw [List.getElem?_range (by assumption)]; rfl
    · rw [List.getElem?_eq_none (by simp; omega)]; rfl
  cases hs : solOf G n with
  | some u =>
    obtain ⟨q, hq⟩ := find_mem hs
    have h1 := solLen_le G _ hq
    have h2 := hn _ hq
    refine solv_of ?_ ?_
    · rw [hl, if_pos h1]
      simp [solAt, hs]
    · rintro rfl
      exact h2 rfl
  | none =>
    unfold solv
    rw [hl]
    split
    · rfl
    · rename_i h
      split at h
      · simp [solAt, hs] at h
      · rw [if_neg (by assumption)]

/-- A size, as far as it is counted. -/
def capS (n : Nat) : Nat := min n 201
theorem capS_le (n : Nat) : capS n ≤ 201 := by unfold capS; omega
def sizesL (θ : Nat → Ty) (l : List Ty) : Nat := sizeL (l.map (sub θ))
theorem size_node {θ : Nat → Ty} {t : Ty} (h : varOf t = none) : (sub θ t).size = 1 + sizesL θ t.args := by
  rw [sub_node h, Ty.size]
  rfl
theorem sizesL_take {θ : Nat → Ty} {l : List Ty} {k : Nat} {a : Ty} (h : l[k]? = some a) : sizesL θ (l.take (k + 1)) = sizesL θ (l.take k) + (sub θ a).size := by
  have hk := (List.getElem?_eq_some_iff.1 h).1
  obtain rfl : l[k] = a := Option.some.inj ((List.getElem?_eq_getElem hk).symm.trans h)
  unfold sizesL
  rw [List.take_succ_eq_append_getElem hk, List.map_append, sizeL_append]
  simp [sizeL]
theorem capS_add {a b : Nat} : min (capS a + capS b) 201 = capS (a + b) := by unfold capS; omega
end Go.Proofs.YtndhglcdkegigaaDoor
