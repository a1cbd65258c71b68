/-
  Binds in memory: keys of maps, equality, rows of binds, rows of rows of binds.
  No condition beyond those of each theorem.
-/
import Derived.Test.YtcliegpofhjpcaaBkey
import Derived.Test.YtcliegpofhjpcaaBrng
namespace Go.Proofs.Ytcliegpofhjpcaa
open Go.RowKit Go.MapKept

abbrev bdV (k : Key) : Value := .agg #[sv k.1, sv k.2]
theorem bdV_inj {k k' : Key} (h : bdV k = bdV k') : k = k' := by
  unfold bdV at h
  injection h with h
  simp at h
  exact Prod.ext (bs_inj h.1) (bs_inj h.2)
theorem eqBdIn (k k' : Key) (d : Nat) (w : World) : (Op.equalIn (d + 2) 42 (bdV k) (bdV k')).run Try.prog w = .ok (decide (k = k')) w := by
  have u3 := Try.underlying9
  have a3 := Try.isAgg9
  have z3 := Try.sizeOf9
  have hS : Try.prog.underlying 42 = some (.struct (Try.prog.fieldsOf 42)) := by kernel_rfl
  have hp : Try.prog.stoodInHeld 42 = false := by kernel_rfl
  unfold bdV
  rw [run_equalIn_agg w (d + 1) 42 _ _ hS hp]
  simp only [Program.fieldsOf, Try.underlying42]
  go_simp
  simp only [bs_toList]
  by_cases h1 : k.1 = k'.1 <;> by_cases h2 : k.2 = k'.2 <;> simp [h1, h2, Prod.ext_iff]
def KBd (_ : World) (v : Value) : Prop := ∃ k, v = bdV k
def KSt (_ : World) (v : Value) : Prop := ∃ l, v = sv l
theorem keyBd : KeyLaw Try.prog 42 KBd := by
  have hu : Try.prog.underlying 42 = some (.struct (Try.prog.fieldsOf 42)) := by kernel_rfl
  refine ⟨fun w e k h => ?_, fun w k es h hes => find_asking hu ?_ ?_ es hes, fun w k h => ?_⟩
  · obtain ⟨k, rfl⟩ := h
    kernel_rfl
  · rintro k' ⟨k', rfl⟩
    obtain ⟨k, rfl⟩ := h
    rfl
  · rintro k' ⟨k', rfl⟩
    obtain ⟨k, rfl⟩ := h
    have h2 : (bdV k = bdV k') ↔ k = k' := ⟨bdV_inj, fun e => by rw [e]⟩
    simp only [Op.equal, Op.maxDepth]
    rw [show (10000 : Nat) = 9998 + 2 from rfl, eqBdIn]
    simp only [h2]
  · obtain ⟨k, rfl⟩ := h
    simp [Instr.sameBits, bytes_beq]
theorem keyStr : KeyLaw Try.prog 9 KSt := by
  have hu := Try.underlying9
  refine ⟨fun w e k h => ?_, fun w k es h hes => ?_, fun w k h => ?_⟩
  · obtain ⟨k, rfl⟩ := h
    kernel_rfl
  · obtain ⟨k, rfl⟩ := h
    have now : ∀ (l : List MapEntry) (i : Nat), (∀ x ∈ l, ∃ k, x.key = sv k) → Instr.findNow .string (sv k) l i = some (seek (sv k) l i) := by
      intro l
      induction l with
      | nil => intro i _; rfl
      | cons e r ih =>
        intro i h
        obtain ⟨y, hy⟩ := h e (by simp)
        unfold Instr.findNow seek
        rw [hy]
        simp only [Instr.sameNow]
        by_cases hky : k = y
        · subst hky
          have h1 : (bs k == bs k) = true := (bytes_beq _ _).2 rfl
          rw [h1]
          simp only [if_true]
        · have h1 : (bs k == bs y) = false := by
            rw [Bool.eq_false_iff]
            intro e
            exact hky (bs_inj ((bytes_beq _ _).1 e))
          have h2 : ¬ (sv k = sv y) := fun h => hky (sv_inj h)
          simp only [h1, h2, if_false]
          exact ih (i + 1) fun x hx => h x (by simp [hx])
    exact run_findKey hu (now es 0 hes)
  · obtain ⟨k, rfl⟩ := h
    simp [Instr.sameBits, bytes_beq]


/-! ### Rows of binds -/
def bdC (x : Key) : List Value := [sv x.1, sv x.2]
theorem bdC_len (x : Key) : (bdC x).length = 2 := rfl
theorem bdC_one (x : Key) : ∀ v ∈ bdC x, v.oneCell' = true := fun v hv => by
  simp [bdC] at hv
  rcases hv with rfl | rfl <;> rfl
theorem bd_at {w : World} {S : Nat → Prop} {A : Option Addr} {l : List Key} {i : Nat} {x : Key} (h : Row w S A (flt bdC l)) (hi : l[i]? = some x) :
    ∃ ad, A = some ad ∧ S ad.block ∧ w.cell? (ad.add (i * 2)) = some (sv x.1) ∧ w.cell? ⟨(ad.add (i * 2)).block, (ad.add (i * 2)).off + 1, none⟩ = some (sv x.2) := by
  have hlt := (List.getElem?_eq_some_iff.1 hi).1
  obtain ⟨ad, hA, hS, hc⟩ := h.addr (by rw [flt_length bdC_len]; omega)
  exact ⟨ad, hA, hS, hc _ _ (flt_at (j := 0) bdC_len hi rfl), cellOff (by decide) (hc _ _ (flt_at bdC_len hi rfl))⟩

/-- A slice value that reads as strings, in blocks of S. -/
def StrsV (w : World) (S : Nat → Prop) (v : Value) (l : List (List UInt8)) : Prop := ∃ A c, v = .slice A l.length c ∧ Row w S A (l.map sv)
/-- A slice value that reads as binds. -/
def BdsV (w : World) (S : Nat → Prop) (v : Value) (l : List Key) : Prop := ∃ A c, v = .slice A l.length c ∧ Row w S A (flt bdC l)
theorem StrsV.keep {w w' : World} {S : Nat → Prop} {v : Value} {l : List (List UInt8)} (h : StrsV w S v l) (hk : Kept S w w') : StrsV w' S v l := by
  obtain ⟨A, c, e, hr⟩ := h
  exact ⟨A, c, e, hr.keep hk⟩
theorem StrsV.more {w : World} {S S' : Nat → Prop} {v : Value} {l : List (List UInt8)} (h : StrsV w S v l) (hS : ∀ b, S b → S' b) : StrsV w S' v l := by
  obtain ⟨A, c, e, hr⟩ := h
  exact ⟨A, c, e, hr.more hS⟩
theorem BdsV.keep {w w' : World} {S : Nat → Prop} {v : Value} {l : List Key} (h : BdsV w S v l) (hk : Kept S w w') : BdsV w' S v l := by
  obtain ⟨A, c, e, hr⟩ := h
  exact ⟨A, c, e, hr.keep hk⟩
theorem BdsV.more {w : World} {S S' : Nat → Prop} {v : Value} {l : List Key} (h : BdsV w S v l) (hS : ∀ b, S b → S' b) : BdsV w S' v l := by
  obtain ⟨A, c, e, hr⟩ := h
  exact ⟨A, c, e, hr.more hS⟩
/-- A row of values, each of which reads as R says. -/
def RowR {α : Type} (R : World → Value → α → Prop) (w : World) (S : Nat → Prop) (A : Option Addr) (ls : List α) : Prop := ∃ vs : List Value, vs.length = ls.length ∧ Row w S A vs ∧ ∀ (i : Nat) (v : Value) (x : α), vs[i]? = some v → ls[i]? = some x → R w v x
end Go.Proofs.Ytcliegpofhjpcaa
