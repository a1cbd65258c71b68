/-
  Signatures in memory: type parameters, names, types. No condition beyond those of each theorem.
-/
import Derived.Test.YtkggmckfdkpldaaDoorFeX
import Derived.Test.YtkggmckfdkpldaaDoorFcC
import Derived.Test.YtkggmckfdkpldaaDoorFcM
namespace Go.Proofs.YtkggmckfdkpldaaDoor
open Go.RowKit

def parC (p : Par) : List Value := [sv p.1, sv p.2]
theorem parC_len (p : Par) : (parC p).length = 2 := rfl
theorem par_at {w : World} {S : Nat → Prop} {A : Option Addr} {l : List Par} {i : Nat} {p : Par} (h : Row w S A (flt parC l)) (hi : l[i]? = some p) :
    ∃ ad, A = some ad ∧ S ad.block ∧ w.cell? (ad.add (i * 2)) = some (sv p.1) ∧ w.cell? ⟨(ad.add (i * 2)).block, (ad.add (i * 2)).off + 1, none⟩ = some (sv p.2) := by
  have hlt := (List.getElem?_eq_some_iff.1 hi).1
  obtain ⟨ad, hA, hS, hc⟩ := h.addr (by rw [flt_length parC_len]; omega)
  exact ⟨ad, hA, hS, hc _ _ (flt_at (j := 0) parC_len hi rfl), cellOff (by decide) (hc _ _ (flt_at parC_len hi rfl))⟩
/-- A slice value that reads as type parameters. -/
def ParsV (w : World) (S : Nat → Prop) (v : Value) (l : List Par) : Prop := ∃ A c, v = .slice A l.length c ∧ Row w S A (flt parC l)
theorem ParsV.keep {w w' : World} {S : Nat → Prop} {v : Value} {l : List Par} (h : ParsV w S v l) (hk : Kept S w w') : ParsV w' S v l := by
  obtain ⟨A, c, e, hr⟩ := h
  exact ⟨A, c, e, hr.keep hk⟩
theorem ParsV.more {w : World} {S S' : Nat → Prop} {v : Value} {l : List Par} (h : ParsV w S v l) (hS : ∀ b, S b → S' b) : ParsV w S' v l := by
  obtain ⟨A, c, e, hr⟩ := h
  exact ⟨A, c, e, hr.more hS⟩
theorem ParsV.nil (w : World) (S : Nat → Prop) : ParsV w S (.slice none 0 0) [] := ⟨none, 0, rfl, Row.nil _ _ _⟩
/-- A slice value that reads as strings. -/
def TxsV (w : World) (S : Nat → Prop) (v : Value) (l : List (List UInt8)) : Prop := ∃ A c, v = .slice A l.length c ∧ Row w S A (l.map sv)
theorem TxsV.keep {w w' : World} {S : Nat → Prop} {v : Value} {l : List (List UInt8)} (h : TxsV w S v l) (hk : Kept S w w') : TxsV w' S v l := by
  obtain ⟨A, c, e, hr⟩ := h
  exact ⟨A, c, e, hr.keep hk⟩
theorem TxsV.more {w : World} {S S' : Nat → Prop} {v : Value} {l : List (List UInt8)} (h : TxsV w S v l) (hS : ∀ b, S b → S' b) : TxsV w S' v l := by
  obtain ⟨A, c, e, hr⟩ := h
  exact ⟨A, c, e, hr.more hS⟩
theorem TxsV.nil (w : World) (S : Nat → Prop) : TxsV w S (.slice none 0 0) [] := ⟨none, 0, rfl, Row.nil _ _ _⟩
/-- A slice value that reads as types. -/
def TysV (w : World) (S : Nat → Prop) (v : Value) (l : List Ty) : Prop := ∃ A c vs, v = .slice A l.length c ∧ l.length ≤ c ∧ c ≤ maxLen ∧ Tys w S A l vs
theorem TysV.keep {w w' : World} {S : Nat → Prop} {v : Value} {l : List Ty} (h : TysV w S v l) (hk : Kept S w w') : TysV w' S v l := by
  obtain ⟨A, c, vs, e, h1, h2, hr⟩ := h
  exact ⟨A, c, vs, e, h1, h2, hr.keep hk⟩
theorem TysV.more {w : World} {S S' : Nat → Prop} {v : Value} {l : List Ty} (h : TysV w S v l) (hS : ∀ b, S b → S' b) : TysV w S' v l := by
  obtain ⟨A, c, vs, e, h1, h2, hr⟩ := h
  exact ⟨A, c, vs, e, h1, h2, hr.more hS⟩
theorem TysV.nil (w : World) (S : Nat → Prop) : TysV w S (.slice none 0 0) [] := ⟨none, 0, [], rfl, Nat.le_refl _, Nat.zero_le _, Tys.nil _ _ _⟩
theorem TyIs.zero (w : World) (S : Nat → Prop) : TyIs w S zeroT (sv []) (.slice none 0 0) := .mk [] [] none 0 [] (by simp) (by simp) ⟨Nat.le_refl _, Nat.zero_le _⟩ rfl (Row.nil _ _ _) (fun i t p h => by simp at h)
/-- A signature's value: its parts' values. -/
structure SgP where
  pv : Value
  nv : Value
  av : Value
  u : Value
  rv : Value
abbrev sgV (x : SgF) (p : SgP) : Value := .agg #[iv x.kind, p.pv, p.nv, p.av, p.u, p.rv, sv x.trt]
/-- The parts of a signature, in blocks of S. -/
structure SgPs (w : World) (S : Nat → Prop) (x : SgF) (p : SgP) : Prop where
  params : ParsV w S p.pv x.params
  names : TxsV w S p.nv x.names
  args : TysV w S p.av x.args
  result : TyIs w S x.result p.u p.rv
theorem SgPs.keep {w w' : World} {S : Nat → Prop} {x : SgF} {p : SgP} (h : SgPs w S x p) (hk : Kept S w w') : SgPs w' S x p := ⟨h.params.keep hk, h.names.keep hk, h.args.keep hk, h.result.keep hk⟩
theorem SgPs.more {w : World} {S S' : Nat → Prop} {x : SgF} {p : SgP} (h : SgPs w S x p) (hS : ∀ b, S b → S' b) : SgPs w S' x p := ⟨h.params.more hS, h.names.more hS, h.args.more hS, h.result.more hS⟩
theorem SgPs.now {w w' : World} {x : SgF} {p : SgP} (h : SgPs w (Lt w.heap.size) x p) (hb : Below w.heap.size w w') : SgPs w' (Lt w'.heap.size) x p := (h.keep (kept_below hb)).more fun _ hy => Nat.lt_of_lt_of_le hy hb.size
theorem SgPs.zero (w : World) (S : Nat → Prop) : SgPs w S SgF.zero ⟨.slice none 0 0, .slice none 0 0, .slice none 0 0, sv [], .slice none 0 0⟩ := ⟨ParsV.nil _ _, TxsV.nil _ _, TysV.nil _ _, TyIs.zero _ _⟩
end Go.Proofs.YtkggmckfdkpldaaDoor
