/-
  Plain facts on the strings of signatures: what is written is read again. No program is in sight.
  Conditions: kinds lie in the range of an int64; names of types are such as a text can have.
-/
import Derived.Test.YtkggmckfdkpldaaDoorFcX
import Derived.Test.YtkggmckfdkpldaaDoorFeP
namespace Go.Proofs.YtkggmckfdkpldaaDoor

def zeroT : Ty := .mk [] []
theorem prn_zero : prn zeroT = [] := by simp [zeroT, prn, prnL]
/-- A type that a fact can hold. -/
def TyOk (t : Ty) : Prop := t = zeroT ∨ Nice t
/-- What fact's kind and the specification's readType return. -/
def tyR (s : List UInt8) : Ty × Bool := if s = [] then (zeroT, true) else match parse s with
  | some t => (t, true)
  | none => (zeroT, false)
theorem ty_back {t : Ty} (h : TyOk t) : tyR (prn t) = (t, true) := by
  unfold tyR
  rcases h with rfl | h
  · rw [prn_zero, if_pos rfl]
  · rw [if_neg (prn_ne h), parse_back h]

abbrev Par := List UInt8 × List UInt8
def parS (p : Par) : List UInt8 := pack [p.1, p.2]
noncomputable def parR (s : List UInt8) : Par × Bool :=
  match unpk s with
  | ([a, b], true) => ((a, b), true)
  | _ => (([], []), false)
theorem par_back (p : Par) : parR (parS p) = (p, true) := by
  unfold parR parS
  rw [unpk_pack]
def parsS (l : List Par) : List UInt8 := pack (l.map parS)
theorem pars_back (l : List Par) : rdList parR (parsS l) = (l, true) := rdList_map fun x _ => par_back x
def tysS (l : List Ty) : List UInt8 := pack (l.map prn)
theorem tys_back {l : List Ty} (h : ∀ t ∈ l, TyOk t) : rdList tyR (tysS l) = (l, true) := rdList_map fun x hx => ty_back (h x hx)

/-- A signature. -/
structure SgF where
  kind : Int
  params : List Par
  names : List (List UInt8)
  args : List Ty
  result : Ty
  trt : List UInt8
def SgF.zero : SgF := ⟨0, [], [], [], zeroT, []⟩
structure SgF.fits (x : SgF) : Prop where
  kind : I64f x.kind
  args : ∀ t ∈ x.args, TyOk t
  result : TyOk x.result
def sgS (x : SgF) : List UInt8 := pack [Lib.itoa x.kind, parsS x.params, pack x.names, tysS x.args, prn x.result, x.trt]
noncomputable def sgR (s : List UInt8) : SgF × Bool :=
  match unpk s with
  | ([k, p, n, a, t, r], true) => if (numv k).2 = true ∧ (rdList parR p).2 = true ∧ (unpk n).2 = true ∧ (rdList tyR a).2 = true ∧ (tyR t).2 = true then (⟨(numv k).1, (rdList parR p).1, (unpk n).1, (rdList tyR a).1, (tyR t).1, r⟩, true) else (SgF.zero, false)
  | _ => (SgF.zero, false)
theorem sg_back {x : SgF} (h : x.fits) : sgR (sgS x) = (x, true) := by
  unfold sgR sgS
  rw [unpk_pack]
  simp only [numv_fit h.kind, pars_back, unpk_pack, tys_back h.args, ty_back h.result, and_self, if_true]
theorem sg_inj {x y : SgF} (hx : x.fits) (hy : y.fits) (h : sgS x = sgS y) : x = y := by
  have h1 := sg_back hx
  rw [h, sg_back hy] at h1
  exact (Prod.mk.inj h1).1.symm
end Go.Proofs.YtkggmckfdkpldaaDoor
