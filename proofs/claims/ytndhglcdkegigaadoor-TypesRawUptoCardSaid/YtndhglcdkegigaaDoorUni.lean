/-
  Equations between types: variables, substitutions, what solves a solution so far. No program is in sight.
  Conditions: those of each theorem.
-/
import Derived.Test.YtndhglcdkegigaaDoorMatch
import Derived.Test.YtndhglcdkegigaaDoorNum
namespace Go.Proofs.YtndhglcdkegigaaDoor

def vname (n : Nat) : List UInt8 := 63 :: Lib.decDigits n
def vnum : List UInt8 → Option Nat
  | [] => none
  | c :: r => if c = 63 then some (valFrom 0 r) else none
theorem vnum_name (n : Nat) : vnum (vname n) = some n := by simp [vnum, vname, valFrom_dec]
/-- A name that is no variable's, or that of one below 100. -/
def GoodN (n : List UInt8) : Prop := vnum n = none ∨ ∃ k < 100, n = vname k
def varOf : Ty → Option Nat
  | .mk n [] => vnum n
  | .mk _ (_ :: _) => none
theorem varOf_args {t : Ty} {k : Nat} (h : varOf t = some k) : t.args = [] := by
  obtain ⟨n, ks⟩ := t
  cases ks with
  | nil => rfl
  | cons a r => simp [varOf] at h
theorem varOf_cons {t : Ty} (h : t.args ≠ []) : varOf t = none := by
  obtain ⟨n, ks⟩ := t
  cases ks with
  | nil => exact absurd rfl h
  | cons a r => rfl

mutual
def sub (θ : Nat → Ty) : Ty → Ty
  | .mk n [] => match vnum n with
    | some k => θ k
    | none => .mk n []
  | .mk n (a :: r) => .mk n (sub θ a :: subL θ r)
def subL (θ : Nat → Ty) : List Ty → List Ty
  | [] => []
  | a :: r => sub θ a :: subL θ r
end
theorem subL_map (θ : Nat → Ty) : ∀ l, subL θ l = l.map (sub θ)
  | [] => by simp [subL]
  | a :: r => by simp [subL, subL_map θ r]
theorem sub_var {θ : Nat → Ty} {t : Ty} {k : Nat} (h : varOf t = some k) : sub θ t = θ k := by
  obtain ⟨n, ks⟩ := t
  cases ks with
  | nil =>
    simp only [varOf] at h
    simp [sub, h]
  | cons a r => simp [varOf] at h
theorem sub_node {θ : Nat → Ty} {t : Ty} (h : varOf t = none) : sub θ t = .mk t.name (t.args.map (sub θ)) := by
  obtain ⟨n, ks⟩ := t
  cases ks with
  | nil =>
    simp only [varOf] at h
    simp [sub, h, Ty.name, Ty.args]
  | cons a r => simp [sub, subL_map, Ty.name, Ty.args]

/-- What is given so far: the type of a variable. -/
abbrev Sol := Nat → Option Ty
def Sat (θ : Nat → Ty) (σ : Sol) : Prop := ∀ k u, σ k = some u → θ k = sub θ u
def Ext (σ σ' : Sol) : Prop := ∀ k u, σ k = some u → σ' k = some u
theorem Ext.refl (σ : Sol) : Ext σ σ := fun _ _ h => h
theorem Ext.trans {a b c : Sol} (h : Ext a b) (h' : Ext b c) : Ext a c := fun k u e => h' k u (h k u e)
theorem Sat.back {θ : Nat → Ty} {σ σ' : Sol} (h : Sat θ σ') (he : Ext σ σ') : Sat θ σ := fun k u e => h k u (he k u e)

/-- What a type leads to by the variables that it is. -/
inductive Out (σ : Sol) : Ty → Ty → Prop
  | stop (t : Ty) (h : ∀ k, varOf t = some k → σ k = none) : Out σ t t
  | step (t u t' : Ty) (k : Nat) (h : varOf t = some k) (hu : σ k = some u) (ho : Out σ u t') : Out σ t t'
theorem Out.sub {σ : Sol} {t t' : Ty} (h : Out σ t t') {θ : Nat → Ty} (hs : Sat θ σ) : sub θ t' = sub θ t := by
  induction h with
  | stop t h => rfl
  | step t u t' k h hu ho ih => rw [ih, sub_var h, hs k u hu]
theorem Out.free {σ : Sol} {t t' : Ty} (h : Out σ t t') : ∀ k, varOf t' = some k → σ k = none := by
  induction h with
  | stop t h => exact h
  | step t u t' k h hu ho ih => exact ih
theorem Out.node {σ : Sol} {t t' : Ty} (h : Out σ t t') (hv : varOf t = none) : t' = t := by
  cases h with
  | stop => rfl
  | step _ u _ k h hu ho => rw [hv] at h; cases h
theorem Out.holds {σ : Sol} {Q : Ty → Prop} (hQ : ∀ k u, σ k = some u → Q u) {t t' : Ty} (h : Out σ t t') (ht : Q t) : Q t' := by
  induction h with
  | stop t h => exact ht
  | step t u t' k h hu ho ih => exact ih (hQ k u hu)

/-- A rank: it falls from a type to its arguments, and from a variable to what is given for it. -/
structure Rank (σ : Sol) (ρ : Ty → Nat) : Prop where
  arg : ∀ t a, a ∈ t.args → ρ a < ρ t
  given : ∀ t k u, varOf t = some k → σ k = some u → ρ u < ρ t
theorem Out.rank {σ : Sol} {ρ : Ty → Nat} (hr : Rank σ ρ) {t t' : Ty} (h : Out σ t t') : ρ t' ≤ ρ t := by
  induction h with
  | stop t h => exact Nat.le_refl _
  | step t u t' k h hu ho ih => exact Nat.le_trans ih (Nat.le_of_lt (hr.given t k u h hu))

/-- A variable occurs in a type, after all that is given. -/
inductive Occ (σ : Sol) (n : Nat) : Ty → Prop
  | here (t : Ty) (h : varOf t = some n) (hs : σ n = none) : Occ σ n t
  | step (t u : Ty) (k : Nat) (h : varOf t = some k) (hu : σ k = some u) (ho : Occ σ n u) : Occ σ n t
  | arg (t a : Ty) (ha : a ∈ t.args) (ho : Occ σ n a) : Occ σ n t
theorem Occ.out {σ : Sol} {n : Nat} {t t' : Ty} (h : Out σ t t') : Occ σ n t ↔ Occ σ n t' := by
  induction h with
  | stop t h => exact Iff.rfl
  | step t u t' k h hu ho ih =>
    refine ⟨fun hc => ih.1 ?_, fun hc => .step t u k h hu (ih.2 hc)⟩
    cases hc with
    | here _ h' hs =>
      rw [h] at h'
      cases h'
      rw [hs] at hu
      cases hu
    | step _ u' k' h' hu' ho' =>
      rw [h] at h'
      cases h'
      rw [hu] at hu'
      cases hu'
      exact ho'
    | arg _ a ha ho' =>
      rw [varOf_args h] at ha
      cases ha
theorem Occ.free {σ : Sol} {n k : Nat} {t : Ty} (hv : varOf t = some k) (hs : σ k = none) : Occ σ n t ↔ k = n := by
  constructor
  · intro h
    cases h with
    | here _ h' _ => rw [hv] at h'; cases h'; rfl
    | step _ u k' h' hu ho => rw [hv] at h'; cases h'; rw [hs] at hu; cases hu
    | arg _ a ha ho => rw [varOf_args hv] at ha; cases ha
  · rintro rfl
    exact .here t hv hs
theorem Occ.node {σ : Sol} {n : Nat} {t : Ty} (hv : varOf t = none) : Occ σ n t ↔ ∃ a ∈ t.args, Occ σ n a := by
  constructor
  · intro h
    cases h with
    | here _ h' _ => rw [hv] at h'; cases h'
    | step _ u k' h' hu ho => rw [hv] at h'; cases h'
    | arg _ a ha ho => exact ⟨a, ha, ho⟩
  · rintro ⟨a, ha, ho⟩
    exact .arg t a ha ho

theorem size_pos : ∀ t : Ty, 0 < t.size
  | .mk n ks => by simp only [Ty.size]; omega
theorem sizeL_mem : ∀ (l : List Ty) (a : Ty), a ∈ l → a.size ≤ sizeL l
  | [], a, h => by cases h
  | b :: r, a, h => by
    rcases List.mem_cons.1 h with rfl | h
    · simp [sizeL]
    · have := sizeL_mem r a h
      simp [sizeL]
      omega
theorem size_arg {t a : Ty} (h : a ∈ t.args) : a.size < t.size := by
  obtain ⟨n, ks⟩ := t
  have := sizeL_mem ks a h
  simp only [Ty.size]
  omega
theorem Occ.size {σ : Sol} {n : Nat} {t : Ty} (h : Occ σ n t) {θ : Nat → Ty} (hs : Sat θ σ) : (θ n).size ≤ (Go.Proofs.YtndhglcdkegigaaDoor.sub θ t).size := by
  induction h with
  | here t h _ => rw [sub_var h]; exact Nat.le_refl _
  | step t u k h hu ho ih => rw [sub_var h, hs k u hu]; exact ih
  | arg t a ha ho ih =>
    have hv : varOf t = none := varOf_cons (by intro e; rw [e] at ha; cases ha)
    have : (Go.Proofs.YtndhglcdkegigaaDoor.sub θ a).size < (Go.Proofs.YtndhglcdkegigaaDoor.sub θ t).size := by
      rw [sub_node hv]
      exact size_arg (t := .mk t.name (t.args.map (Go.Proofs.YtndhglcdkegigaaDoor.sub θ))) (List.mem_map_of_mem ha)
    omega
theorem Occ.less {σ : Sol} {n : Nat} {t : Ty} (h : Occ σ n t) (hv : varOf t = none) {θ : Nat → Ty} (hs : Sat θ σ) : (θ n).size < (Go.Proofs.YtndhglcdkegigaaDoor.sub θ t).size := by
  obtain ⟨a, ha, ho⟩ := (Occ.node hv).1 h
  have h1 := ho.size hs
  have : (Go.Proofs.YtndhglcdkegigaaDoor.sub θ a).size < (Go.Proofs.YtndhglcdkegigaaDoor.sub θ t).size := by
    rw [sub_node hv]
    exact size_arg (t := .mk t.name (t.args.map (Go.Proofs.YtndhglcdkegigaaDoor.sub θ))) (List.mem_map_of_mem ha)
  omega

/-- One variable more is given. -/
def upd (σ : Sol) (n : Nat) (u : Ty) : Sol := fun k => if k = n then some u else σ k
theorem upd_ext {σ : Sol} {n : Nat} {u : Ty} (h : σ n = none) : Ext σ (upd σ n u) := fun k v e => by
  unfold upd
  by_cases hk : k = n
  · subst hk
    rw [h] at e
    cases e
  · rw [if_neg hk]
    exact e
theorem upd_sat {θ : Nat → Ty} {σ : Sol} {n : Nat} {u : Ty} (hs : Sat θ σ) (h : θ n = sub θ u) : Sat θ (upd σ n u) := fun k v e => by
  unfold upd at e
  by_cases hk : k = n
  · subst hk
    rw [if_pos rfl] at e
    cases e
    exact h
  · rw [if_neg hk] at e
    exact hs k v e
theorem upd_eq {θ : Nat → Ty} {σ : Sol} {n : Nat} {u : Ty} (hs : Sat θ (upd σ n u)) : θ n = sub θ u := hs n u (by simp [upd])
open Classical in
theorem upd_rank {σ : Sol} {ρ : Ty → Nat} (hr : Rank σ ρ) {n : Nat} {u : Ty} (hn : σ n = none) (ho : ¬ Occ σ n u) : ∃ ρ', Rank (upd σ n u) ρ' := by
  refine ⟨fun x => ρ x + if Occ σ n x then ρ u + 1 else 0, ?_, ?_⟩
  · intro t a ha
    have h1 := hr.arg t a ha
    by_cases hoa : Occ σ n a
    · have : Occ σ n t := .arg t a ha hoa
      simp only [hoa, this, if_true]
      omega
    · simp only [hoa, if_false]
      omega
  · intro t k v hv hk
    unfold upd at hk
    by_cases hkn : k = n
    · subst hkn
      rw [if_pos rfl] at hk
      cases hk
      have : Occ σ k t := .here t hv hn
      simp only [ho, this, if_true, if_false]
      omega
    · rw [if_neg hkn] at hk
      have h1 := hr.given t k v hv hk
      by_cases hov : Occ σ n v
      · have : Occ σ n t := .step t v k hv hk hov
        simp only [hov, this, if_true]
        omega
      · simp only [hov, if_false]
        omega
/-- At the start a rank is the size. -/
theorem rank_none : Rank (fun _ => none) Ty.size := ⟨fun _ _ h => size_arg h, fun _ _ _ _ h => by cases h⟩
end Go.Proofs.YtndhglcdkegigaaDoor
