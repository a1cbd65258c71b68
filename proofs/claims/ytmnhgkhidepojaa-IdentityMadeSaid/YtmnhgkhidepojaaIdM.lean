/-
  Identities in memory: keys of maps, equality of structs, rows of items and of identities.
  No condition beyond those of each theorem.
-/
import Derived.Test.YtmnhgkhidepojaaIdP
import Derived.Test.YtmnhgkhidepojaaBrng
namespace Go.Proofs.Ytmnhgkhidepojaa
open Go.RowKit Go.MapKept

theorem bs_toList (l : List UInt8) : (bs l).toList = l := by rw [ByteArray.toList_eq, bs_data]
theorem sv_inj {a b : List UInt8} (h : sv a = sv b) : a = b := bs_inj (by injection h)

def nmV (k : Key) : Value := .agg #[sv k.1, sv k.2]
theorem nmV_inj {k k' : Key} (h : nmV k = nmV k') : k = k' := by
  unfold nmV at h
  injection h with h
  simp at h
  exact Prod.ext (bs_inj h.1) (bs_inj h.2)
theorem eqNamedIn (k k' : Key) (d : Nat) (w : World) : (Op.equalIn (d + 2) 58 (nmV k) (nmV k')).run Try.prog w = .ok (decide (k = k')) w := by
  have u3 := Try.underlying9
  have a3 := Try.isAgg9
  have z3 := Try.sizeOf9
  have hS : Try.prog.underlying 58 = some (.struct (Try.prog.fieldsOf 58)) := by kernel_rfl
  have hp : Try.prog.stoodInHeld 58 = false := by kernel_rfl
  unfold nmV
  rw [run_equalIn_agg w (d + 1) 58 _ _ hS hp]
  simp only [Program.fieldsOf, Try.underlying58]
  go_simp
  simp only [bs_toList]
  by_cases h1 : k.1 = k'.1 <;> by_cases h2 : k.2 = k'.2 <;> simp [h1, h2, Prod.ext_iff]
def KNm (_ : World) (v : Value) : Prop := ∃ k, v = nmV k
def KSt (_ : World) (v : Value) : Prop := ∃ l, v = sv l
theorem keyNamed : KeyLaw Try.prog 58 KNm := by
  have hu : Try.prog.underlying 58 = some (.struct (Try.prog.fieldsOf 58)) := by kernel_rfl
  refine ⟨fun w e k h => ?_, fun w k es h hes => find_asking hu ?_ ?_ es hes, fun w k h => ?_⟩
  · obtain ⟨k, rfl⟩ := h
    kernel_rfl
  · rintro k' ⟨k', rfl⟩
    obtain ⟨k, rfl⟩ := h
    rfl
  · rintro k' ⟨k', rfl⟩
    obtain ⟨k, rfl⟩ := h
    have h2 : (nmV k = nmV k') ↔ k = k' := ⟨nmV_inj, fun e => by rw [e]⟩
    simp only [Op.equal, Op.maxDepth]
    rw [show (10000 : Nat) = 9998 + 2 from rfl, eqNamedIn]
    simp only [h2]
  · obtain ⟨k, rfl⟩ := h
    simp [nmV, Instr.sameBits, bytes_beq]
theorem keyStr : KeyLaw Try.prog 9 KSt := by
  have hu := Try.underlying9
  refine ⟨fun w e k h => ?_, fun w k es h hes => ?_, fun w k h => ?_⟩
  · obtain ⟨k, rfl⟩ := h
    kernel_rfl
  · obtain ⟨k, rfl⟩ := h
    have now : ∀ (l : List MapEntry) (i : Nat), (∀ x ∈ l, ∃ k, x.key = sv k) → Instr.findNow .string (sv k) l i = some (seek (sv k) l i) := by
      intro l
      induction l with
      | nil => intro i _; rfl
      | cons e r ih =>
        intro i h
        obtain ⟨y, hy⟩ := h e (by simp)
        unfold Instr.findNow seek
        rw [hy]
        simp only [Instr.sameNow]
        by_cases hky : k = y
        · subst hky
          have h1 : (bs k == bs k) = true := (bytes_beq _ _).2 rfl
          rw [h1]
          simp only [if_true]
        · have h1 : (bs k == bs y) = false := by
            rw [Bool.eq_false_iff]
            intro e
            exact hky (bs_inj ((bytes_beq _ _).1 e))
          have h2 : ¬ (sv k = sv y) := fun h => hky (sv_inj h)
          simp only [h1, h2, if_false]
          exact ih (i + 1) fun x hx => h x (by simp [hx])
    exact run_findKey hu (now es 0 hes)
  · obtain ⟨k, rfl⟩ := h
    simp [Instr.sameBits, bytes_beq]

/-! ### Rows of items and of identities -/
def itC (x : It) : List Value := [sv x.md, sv x.nm, sv x.sh]
def idC (x : Idn) : List Value := [.int .i64 x.id, sv x.it.md, sv x.it.nm, sv x.it.sh]
theorem itC_len (x : It) : (itC x).length = 3 := rfl
theorem idC_len (x : Idn) : (idC x).length = 4 := rfl
theorem itC_one (x : It) : ∀ v ∈ itC x, v.oneCell' = true := fun v hv => by
  simp [itC] at hv
  rcases hv with rfl | rfl | rfl <;> rfl
theorem idC_one (x : Idn) : ∀ v ∈ idC x, v.oneCell' = true := fun v hv => by
  simp [idC] at hv
  rcases hv with rfl | rfl | rfl | rfl <;> rfl
abbrev itV (x : It) : Value := .agg #[sv x.md, sv x.nm, sv x.sh]
abbrev idV (x : Idn) : Value := .agg #[.int .i64 x.id, sv x.it.md, sv x.it.nm, sv x.it.sh]

theorem it_at {w : World} {S : Nat → Prop} {A : Option Addr} {l : List It} {i : Nat} {x : It} (h : Row w S A (flt itC l)) (hi : l[i]? = some x) :
    ∃ ad, A = some ad ∧ S ad.block ∧ w.cell? (ad.add (i * 3)) = some (sv x.md) ∧ w.cell? ⟨(ad.add (i * 3)).block, (ad.add (i * 3)).off + 1, none⟩ = some (sv x.nm) ∧ w.cell? ⟨(ad.add (i * 3)).block, (ad.add (i * 3)).off + 2, none⟩ = some (sv x.sh) := by
  have hlt := (List.getElem?_eq_some_iff.1 hi).1
  obtain ⟨ad, hA, hS, hc⟩ := h.addr (by rw [flt_length itC_len]; omega)
  exact ⟨ad, hA, hS, hc _ _ (flt_at (j := 0) itC_len hi rfl), cellOff (by decide) (hc _ _ (flt_at itC_len hi rfl)), cellOff (by decide) (hc _ _ (flt_at itC_len hi rfl))⟩
theorem id_at {w : World} {S : Nat → Prop} {A : Option Addr} {l : List Idn} {i : Nat} {x : Idn} (h : Row w S A (flt idC l)) (hi : l[i]? = some x) :
    ∃ ad, A = some ad ∧ S ad.block ∧ w.cell? (ad.add (i * 4)) = some (.int .i64 x.id) ∧ w.cell? ⟨(ad.add (i * 4)).block, (ad.add (i * 4)).off + 1, none⟩ = some (sv x.it.md) ∧ w.cell? ⟨(ad.add (i * 4)).block, (ad.add (i * 4)).off + 2, none⟩ = some (sv x.it.nm) ∧
      w.cell? ⟨(ad.add (i * 4)).block, (ad.add (i * 4)).off + 3, none⟩ = some (sv x.it.sh) := by
  have hlt := (List.getElem?_eq_some_iff.1 hi).1
  obtain ⟨ad, hA, hS, hc⟩ := h.addr (by rw [flt_length idC_len]; omega)
  exact ⟨ad, hA, hS, hc _ _ (flt_at (j := 0) idC_len hi rfl), cellOff (by decide) (hc _ _ (flt_at idC_len hi rfl)), cellOff (by decide) (hc _ _ (flt_at idC_len hi rfl)), cellOff (by decide) (hc _ _ (flt_at idC_len hi rfl))⟩
end Go.Proofs.Ytmnhgkhidepojaa
