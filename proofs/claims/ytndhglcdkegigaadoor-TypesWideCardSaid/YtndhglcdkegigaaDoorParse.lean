/-
  Types read from text and printed: the plain law. What is read is a text that prints the same.
  Conditions: none beyond those of each theorem.
-/
import Derived.Test.YtndhglcdkegigaaDoorMatch
namespace Go.Proofs.YtndhglcdkegigaaDoor

def sep (c : UInt8) : Bool := c == 60 || c == 62 || c == 44
def nm (s : List UInt8) : List UInt8 := s.takeWhile fun c => !sep c
def rs (s : List UInt8) : List UInt8 := s.dropWhile fun c => !sep c

mutual
def rd : Nat → List UInt8 → Option (Ty × List UInt8)
  | 0, _ => none
  | n + 1, s => if nm s = [] then none else match rs s with
    | [] => some (.mk (nm s) [], [])
    | c :: r => if c = 60 then (rdK n r).map fun p => (.mk (nm s) p.1, p.2) else some (.mk (nm s) [], c :: r)
def rdK : Nat → List UInt8 → Option (List Ty × List UInt8)
  | 0, _ => none
  | n + 1, s => match rd n s with
    | none => none
    | some (_, []) => none
    | some (t, c :: r) => if c = 44 then (rdK n r).map fun p => (t :: p.1, p.2) else if c = 62 then some ([t], r) else none
end

def parse (s : List UInt8) : Option Ty := match rd (2 * s.length + 1) s with
  | some (t, []) => some t
  | _ => none

mutual
def prn : Ty → List UInt8
  | .mk n ks => n ++ prnL ks 60 ++ (if ks = [] then [] else [62])
def prnL : List Ty → UInt8 → List UInt8
  | [], _ => []
  | t :: r, c => c :: (prn t ++ prnL r 44)
end

theorem nm_rs (s : List UInt8) : nm s ++ rs s = s := List.takeWhile_append_dropWhile ..
theorem nm_len (s : List UInt8) : (nm s).length + (rs s).length = s.length := by rw [← List.length_append, nm_rs]

theorem rd_len : ∀ n, (∀ s t r, rd n s = some (t, r) → t.size + r.length ≤ s.length) ∧ (∀ s ts r, rdK n s = some (ts, r) → sizeL ts + 1 + r.length ≤ s.length) := by
  intro n
  induction n with
  | zero => exact ⟨fun s t r h => by simp [rd] at h, fun s t r h => by simp [rdK] at h⟩
  | succ n ih =>
    refine ⟨fun s t r h => ?_, fun s ts r h => ?_⟩
    · rw [rd] at h
      split at h
      · cases h
      · rename_i hn
        have hl := nm_len s
        have hp : 0 < (nm s).length := List.length_pos_iff.2 hn
        split at h
        · simp only [Option.some.injEq, Prod.mk.injEq] at h
          obtain ⟨rfl, rfl⟩ := h
          simp [Ty.size, sizeL]
          omega
        · rename_i c r' hr
          rw [hr] at hl
          split at h
          · obtain ⟨⟨ts, r2⟩, hk, e⟩ := Option.map_eq_some_iff.1 h
            simp only [Prod.mk.injEq] at e
            obtain ⟨rfl, rfl⟩ := e
            have := ih.2 _ _ _ hk
            simp only [Ty.size, List.length_cons] at hl ⊢
            omega
          · simp only [Option.some.injEq, Prod.mk.injEq] at h
            obtain ⟨rfl, rfl⟩ := h
            simp only [Ty.size, sizeL, List.length_cons] at hl ⊢
            omega
    · rw [rdK] at h
      rcases hx : rd n s with _ | ⟨t, r'⟩
      · rw [hx] at h
        cases h
      · rw [hx] at h
        have h1 := ih.1 _ _ _ hx
        cases r' with
        | nil => cases h
        | cons c r' =>
          simp only at h
          split at h
          · obtain ⟨⟨ts', r2⟩, hk, e⟩ := Option.map_eq_some_iff.1 h
            simp only [Prod.mk.injEq] at e
            obtain ⟨rfl, rfl⟩ := e
            have := ih.2 _ _ _ hk
            simp only [sizeL, List.length_cons] at h1 ⊢
            omega
          · split at h
            · simp only [Option.some.injEq, Prod.mk.injEq] at h
              obtain ⟨rfl, rfl⟩ := h
              simp only [sizeL, List.length_cons] at h1 ⊢
              omega
            · cases h

theorem rd_prn : ∀ n, (∀ s t r, rd n s = some (t, r) → s = prn t ++ r) ∧ (∀ s ts r, rdK n s = some (ts, r) → ts ≠ [] ∧ ∀ c, c :: s = prnL ts c ++ 62 :: r) := by
  intro n
  induction n with
  | zero => exact ⟨fun s t r h => by simp [rd] at h, fun s t r h => by simp [rdK] at h⟩
  | succ n ih =>
    refine ⟨fun s t r h => ?_, fun s ts r h => ?_⟩
    · rw [rd] at h
      have hl := nm_rs s
      split at h
      · cases h
      · split at h
        · rename_i hr
          simp only [Option.some.injEq, Prod.mk.injEq] at h
          obtain ⟨rfl, rfl⟩ := h
          rw [hr] at hl
          simpa [prn, prnL] using hl.symm
        · rename_i c r' hr
          rw [hr] at hl
          split at h
          · rename_i hc
            obtain ⟨⟨ts, r2⟩, hk, e⟩ := Option.map_eq_some_iff.1 h
            simp only [Prod.mk.injEq] at e
            obtain ⟨rfl, rfl⟩ := e
            obtain ⟨h1, h2⟩ := ih.2 _ _ _ hk
            have hs : s = nm s ++ (60 :: r') := by rw [← hc]; exact hl.symm
            rw [prn, if_neg h1]
            refine hs.trans ?_
            rw [h2 60]
            simp
          · simp only [Option.some.injEq, Prod.mk.injEq] at h
            obtain ⟨rfl, rfl⟩ := h
            simpa [prn, prnL] using hl.symm
    · rw [rdK] at h
      rcases hx : rd n s with _ | ⟨t, r'⟩
      · rw [hx] at h
        cases h
      · rw [hx] at h
        have h1 := ih.1 _ _ _ hx
        cases r' with
        | nil => cases h
        | cons c r' =>
          simp only at h
          split at h
          · rename_i hc
            obtain ⟨⟨ts', r2⟩, hk, e⟩ := Option.map_eq_some_iff.1 h
            simp only [Prod.mk.injEq] at e
            obtain ⟨rfl, rfl⟩ := e
            obtain ⟨h2, h3⟩ := ih.2 _ _ _ hk
            refine ⟨by simp, fun d => ?_⟩
            rw [prnL, h1, hc, h3 44]
            simp
          · split at h
            · rename_i hc
              simp only [Option.some.injEq, Prod.mk.injEq] at h
              obtain ⟨rfl, rfl⟩ := h
              refine ⟨by simp, fun d => ?_⟩
              rw [prnL, prnL, h1, hc]
              simp
            · cases h

theorem parse_prn {s : List UInt8} {t : Ty} (h : parse s = some t) : prn t = s := by
  unfold parse at h
  split at h
  · rename_i t' hx
    cases h
    have := (rd_prn _).1 _ _ _ hx
    simpa using this.symm
  · cases h
end Go.Proofs.YtndhglcdkegigaaDoor
