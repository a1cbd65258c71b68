/-
  The walk of unify.Variable.
  Conditions: the name is no variable's, or that of a variable below 100.
  Words for the memory of a solver: types at pointers, what is given, what has agreed.
  Conditions: those of each theorem.
-/
import Derived.Test.YtndhglcdkegigaaDoorRMap
import Derived.Lib.AtoiErrMem
namespace Go.Proofs.YtndhglcdkegigaaDoor
section
open Go.RowKit
theorem dec_len {j : Nat} (h : j < 100) : (Lib.decDigits j).length ≤ 2 := by
  rw [Lib.decDigits]
  split
  · simp
  · rw [Lib.decDigits, dif_pos (by omega)]
    simp
def varV (n : List UInt8) (k : Nat) : Option Nat := if k = 0 then vnum n else none
theorem varOf_mk (n : List UInt8) (ks : List Ty) : varOf (.mk n ks) = varV n ks.length := by
  cases ks with
  | nil => rfl
  | cons a r => simp [varOf, varV]

theorem cutQ_no {n : List UInt8} (h : vnum n = none) : Lib.trimPrefix n [63] = n ∧ Lib.hasPrefix n [63] = false := by
  cases n with
  | nil => exact ⟨rfl, rfl⟩
  | cons c r =>
    have hc : c ≠ 63 := by
      intro e
      simp [vnum, e] at h
    have h2 : ([63] : List UInt8).isPrefixOf (c :: r) = false := by
      have : (63 == c) = false := by simpa using fun e : 63 = c => hc e.symm
      simp [List.isPrefixOf, this]
    simp [Lib.trimPrefix, Lib.hasPrefix, h2]
theorem cutQ_yes (j : Nat) : Lib.trimPrefix (vname j) [63] = Lib.decDigits j ∧ Lib.hasPrefix (vname j) [63] = true := by
  simp [vname, Lib.trimPrefix, Lib.hasPrefix]

def varI : Option Nat → Int
  | some k => (k : Int)
  | none => 0
def VarRes (r : Option Nat) (w : World) (e : Ending) (w' : World) : Prop := e = .returned (.tuple #[.int .i64 (varI r), .bool r.isSome]) ∧ Below w.heap.size w w'

set_option maxHeartbeats 4000000 in
set_option maxRecDepth 100000 in
theorem variable_any (p : Addr) (n : List UInt8) (A : Option Addr) (k c : Nat) (w : World) (c0 : w.cell? p = some (sv n)) (c1 : w.cell? ⟨p.block, p.off + 1, none⟩ = some (.slice A k c)) (hg : GoodN n) (hk : k ≤ 4000000) :
    Calls Tryd.prog 77 #[.pointer (some p)] w (VarRes (varV n k) w) := by
  rcases hg with hg | ⟨j, hj, rfl⟩
  · have hv : varV n k = none := by
      unfold varV
      split
      · exact hg
      · rfl
    rw [hv]
    have hcut := Tryd.strings_CutPrefix (bs n) ⟨#[63]⟩ w
    rw [bs_data, show (⟨#[63]⟩ : ByteArray).data.toList = [63] from rfl, (cutQ_no hg).1, (cutQ_no hg).2] at hcut
    have HCUT := Lib.hid hcut
    clear hcut hg hv
    go_enter Tryd.func77, Tryd.ntmps77
    go_wp2_with fail
    refine HCUT.out.mono ?_
    rintro e w1 ⟨rfl, rfl⟩
    go_wp2
    go_ret2
    exact ⟨rfl, Below.refl _ _⟩
  · have hcut := Tryd.strings_CutPrefix (bs (vname j)) ⟨#[63]⟩ w
    rw [bs_data, show (⟨#[63]⟩ : ByteArray).data.toList = [63] from rfl, (cutQ_yes j).1, (cutQ_yes j).2] at hcut
    have HCUT : Hid (Calls Tryd.prog 75 #[.string (bs (vname j)), .string ⟨#[63]⟩] w fun e w' => e = .returned (.tuple #[.string (bs (Lib.decDigits j)), .bool true]) ∧ w' = w) := Lib.hid hcut
    clear hcut
    by_cases hk0 : k = 0
    · subst hk0
      have hv : varV (vname j) 0 = some j := by simp [varV, vnum_name]
      rw [hv]
      have hsz : (bs (Lib.decDigits j)).size ≤ 7 := by rw [bs_size]; have := dec_len hj; omega
      have hat := Tryd.strconv_Atoi_ok (bs (Lib.decDigits j)) (by omega) (j : Int) (by rw [bs_data]; exact atoi_dec j (by omega)) w
      have HAT := Lib.hid hat
      have hb1 : decide ((j : Int) < 0) = false := by simp
      have hb2 : decide ((j : Int) > 4000000) = false := by simp; omega
      clear hat hv
      go_enter Tryd.func77, Tryd.ntmps77
      go_wp2_with fail
      refine HCUT.out.mono ?_
      rintro e w1 ⟨rfl, rfl⟩
      go_wp2_with fail
      refine HAT.out.mono ?_
      rintro e w2 ⟨rfl, hw2⟩
      have hb : Below w1.heap.size w1 w2 := by
        rcases hw2 with rfl | ⟨t, rfl⟩
        · exact Below.refl _ _
        · exact Lib.bytesWorld_below _ _ _
      clear hw2
      go_wp2_with fail
      refine (Tryd.strconv_Itoa_small j hj w2).mono ?_
      rintro e w3 ⟨rfl, rfl⟩
      have hbe : (Lib.decDigits j == (bs (Lib.decDigits j)).toList) = true := by rw [Lib.toList_data, bs_data]; simp
      have hbn : (Lib.decDigits j != (bs (Lib.decDigits j)).toList) = false := by rw [bne, hbe]; rfl
      go_wp2
      refine bodyPost_ret (v := .tuple #[.int .i64 (j : Int), .bool true]) (by simp [results, Tryd.results77, go_sem]) rfl ⟨rfl, hb⟩
    · have hv : varV (vname j) k = none := by simp [varV, hk0]
      rw [hv]
      have hkg : (k : Int) > 0 := by omega
      clear hv
      go_enter Tryd.func77, Tryd.ntmps77
      go_wp2_with fail
      refine HCUT.out.mono ?_
      rintro e w1 ⟨rfl, rfl⟩
      go_wp2
      go_ret2
      exact ⟨rfl, Below.refl _ _⟩
end

section
open Go.RowKit
theorem tyIs_fun {w : World} {S : Nat → Prop} {t : Ty} {u v : Value} (h : TyIs w S t u v) : ∀ {t' : Ty}, TyIs w S t' u v → t = t' := by
  induction h with
  | mk n ks A c vs hn hz hc hl row hk ih =>
    intro t' h'
    obtain ⟨n', ks'⟩ := t'
    obtain ⟨A', c', vs', hu, hv, hn', hz', hc1', hc2', hT'⟩ := h'.open_
    simp only [Ty.name, Ty.args] at hu hv hn' hz' hc1' hT'
    have e1 : n = n' := by
      have := congrArg (fun x => match x with | .string b => b.data.toList | _ => []) hu
      simpa [sv, bs_data] using this
    injection hv with e2 e3 e4
    subst e1 e2 e4
    have e5 : ks = ks' := by
      apply List.ext_getElem e3
      intro i h1 h2
      have q : TyIs w S ks[i] (vs[i]'(by omega)).1 (vs[i]'(by omega)).2 := hk i _ _ (List.getElem?_eq_getElem h1) (List.getElem?_eq_getElem (by omega))
      have q' : TyIs w S ks'[i] (vs'[i]'(by rw [hT'.len]; omega)).1 (vs'[i]'(by rw [hT'.len]; omega)).2 := hT'.each i _ _ (List.getElem?_eq_getElem h2) (List.getElem?_eq_getElem (by rw [hT'.len]; omega))
      obtain ⟨a1, a2⟩ := flat2_at vs i _ (List.getElem?_eq_getElem (by omega))
      obtain ⟨b1, b2⟩ := flat2_at vs' i _ (List.getElem?_eq_getElem (by rw [hT'.len]; omega))
      obtain ⟨ad, rfl, _, c1⟩ := row.at_ a1
      obtain ⟨_, hh, _, c2⟩ := row.at_ a2
      obtain rfl := Option.some.inj hh
      obtain ⟨_, hh, _, d1⟩ := hT'.row.at_ b1
      obtain rfl := Option.some.inj hh
      obtain ⟨_, hh, _, d2⟩ := hT'.row.at_ b2
      obtain rfl := Option.some.inj hh
      have f1 := Option.some.inj (c1.symm.trans d1)
      have f2 := Option.some.inj (c2.symm.trans d2)
      rw [← f1, ← f2] at q'
      exact ih i _ _ (List.getElem?_eq_getElem h1) (List.getElem?_eq_getElem (by omega)) q'
    rw [e5]

/-- A type at a pointer. -/
structure PtTy (w : World) (S : Nat → Prop) (p : Addr) (t : Ty) : Prop where
  ex : ∃ u v, S p.block ∧ w.cell? p = some u ∧ w.cell? ⟨p.block, p.off + 1, none⟩ = some v ∧ TyIs w S t u v
theorem PtTy.keep {w w' : World} {S : Nat → Prop} {p : Addr} {t : Ty} (h : PtTy w S p t) (hk : Kept S w w') : PtTy w' S p t := by
  obtain ⟨u, v, hS, h1, h2, h3⟩ := h.ex
  exact ⟨u, v, hS, (hk p hS).trans h1, (hk ⟨p.block, p.off + 1, none⟩ hS).trans h2, h3.keep hk⟩
theorem PtTy.inj {w : World} {S : Nat → Prop} {p : Addr} {t t' : Ty} (h : PtTy w S p t) (h' : PtTy w S p t') : t = t' := by
  obtain ⟨u, v, hS, h1, h2, h3⟩ := h.ex
  obtain ⟨u', v', _, h1', h2', h3'⟩ := h'.ex
  rw [h1] at h1'
  rw [h2] at h2'
  cases h1'
  cases h2'
  exact tyIs_fun h3 h3'
theorem PtTy.cells {w : World} {S : Nat → Prop} {p : Addr} {t : Ty} (h : PtTy w S p t) : ∃ A c, S p.block ∧ w.cell? p = some (sv t.name) ∧ w.cell? ⟨p.block, p.off + 1, none⟩ = some (.slice A t.args.length c) ∧ t.args.length ≤ 4000000 ∧ t.args.length ≤ c ∧ c ≤ maxLen ∧
    ∀ i a, t.args[i]? = some a → ∃ ad, A = some ad ∧ PtTy w S (ad.add (i * 2)) a := by
  obtain ⟨u, v, hS, h1, h2, h3⟩ := h.ex
  obtain ⟨A, c, vs, rfl, rfl, hn, hz, hc1, hc2, hT⟩ := h3.open_
  refine ⟨A, c, hS, h1, h2, hz, hc1, hc2, fun i a ha => ?_⟩
  obtain ⟨ad, u, v, rfl, hSa, e0, e1, hty⟩ := hT.at_ ha
  exact ⟨ad, rfl, u, v, by rw [blkAdd]; exact hSa, e0, e1, hty⟩

/-- The data of a solver: its own block and those of its maps; what is given (a variable, a pointer, the type there); pairs that agree; the two slices of this equation. -/
structure SD where
  sb : Nat
  gb : Nat
  ab : Nat
  G : List (Nat × Addr × Ty)
  AG : List (Addr × Addr)
  tr : List Nat
  ps : List (Addr × Addr)
  trv : Value
  psv : Value
  lo : Int

def solOf (G : List (Nat × Addr × Ty)) : Sol := fun k => (G.find? fun g => g.1 == k).map (·.2.2)
def SD.sol (d : SD) : Sol := solOf d.G
def givenV (g : Nat × Addr × Ty) : Value × Value := (.int .i64 (g.1 : Int), .pointer (some g.2.1))
def pairV2 (x : Addr × Addr) : Value := .agg #[.pointer (some x.1), .pointer (some x.2)]
def agreedV (x : Addr × Addr) : Value × Value := (pairV2 x, .bool true)
def flatP (l : List (Addr × Addr)) : List Value := l.flatMap fun x => [.pointer (some x.1), .pointer (some x.2)]

structure Sv (w : World) (B : Nat) (S : Nat → Prop) (d : SD) : Prop where
  lo : B ≤ d.sb ∧ B ≤ d.gb ∧ B ≤ d.ab ∧ d.gb ≠ d.ab
  cells : w.heap[d.sb]? = some (.cells #[.map (some d.gb), .map (some d.ab), d.trv, d.psv, .int .i64 d.lo] 84 (0, 0))
  given : MapAt w d.gb (d.G.map givenV)
  agreed : MapAt w d.ab (d.AG.map agreedV)
  gty : ∀ g ∈ d.G, PtTy w S g.2.1 g.2.2
  aty : ∀ x ∈ d.AG, (∃ t, PtTy w S x.1 t) ∧ ∃ u, PtTy w S x.2 u
  trail : w.ownsRow B 3 1 d.trv d.tr.length (d.tr.map fun n : Nat => .int .i64 (n : Int))
  pairs : w.ownsRow B 107 2 d.psv d.ps.length (flatP d.ps)

/-- The blocks of types: below B, of plain cells. -/
structure Plb (w : World) (B : Nat) (S : Nat → Prop) : Prop where
  lt : ∀ b, S b → b < B
  plain : ∀ b, S b → PlainB w b
theorem PlainB.same {w w' : World} {b : Nat} (h : PlainB w b) (hb : w'.heap[b]? = w.heap[b]?) : PlainB w' b := by
  obtain ⟨cs, T, hc⟩ := h
  exact ⟨cs, T, hb.trans hc⟩
theorem Plb.below {w w' : World} {B : Nat} {S : Nat → Prop} (h : Plb w B S) (hb : Below B w w') : Plb w' B S := ⟨h.lt, fun b hS => (h.plain b hS).same (hb.block b (h.lt b hS))⟩
theorem Plb.kept {w w' : World} {B : Nat} {S : Nat → Prop} (h : Plb w B S) (hb : Below B w w') : Kept S w w' := (kept_below hb).sub fun b hS => h.lt b hS

theorem find_mem {G : List (Nat × Addr × Ty)} {k : Nat} {u : Ty} (h : solOf G k = some u) : ∃ q, (k, q, u) ∈ G := by
  unfold solOf at h
  obtain ⟨g, hg, rfl⟩ := Option.map_eq_some_iff.1 h
  have h1 := List.find?_some hg
  have h2 := List.mem_of_find?_eq_some hg
  obtain ⟨k', q, u⟩ := g
  simp at h1
  subst h1
  exact ⟨q, h2⟩
theorem find_none {G : List (Nat × Addr × Ty)} {k : Nat} (h : solOf G k = none) : ∀ g ∈ G, g.1 ≠ k := by
  unfold solOf at h
  rw [Option.map_eq_none_iff, List.find?_eq_none] at h
  intro g hg
  simpa using h g hg
theorem find_of {G : List (Nat × Addr × Ty)} {g : Nat × Addr × Ty} (hn : (G.map (·.1)).Nodup) (hg : g ∈ G) : solOf G g.1 = some g.2.2 := by
  unfold solOf
  induction G with
  | nil => cases hg
  | cons x r ih =>
    have hn' := List.nodup_cons.1 hn
    rcases List.mem_cons.1 hg with rfl | hg
    · simp
    · have hx : (x.1 == g.1) = false := by
        rw [beq_eq_false_iff_ne]
        intro e
        exact hn'.1 (List.mem_map.2 ⟨g, hg, e.symm⟩)
      rw [List.find?_cons, hx]
      exact ih hn'.2 hg

theorem Sv.below {w w' : World} {B : Nat} {S : Nat → Prop} {d : SD} (h : Sv w B S d) (hp : Plb w B S) (hBw : B ≤ w.heap.size) (hb : Below w.heap.size w w') : Sv w' B S d := by
  have hk := hp.kept (hb.mono hBw)
  refine ⟨h.lo, (hb.block _ (lt_of_heap h.cells)).trans h.cells, h.given.same (hb.block _ h.given.lt), h.agreed.same (hb.block _ h.agreed.lt), fun g hg => (h.gty g hg).keep hk, fun x hx => ?_, h.trail.kept (grownOfBelow hb) (ownNone _), h.pairs.kept (grownOfBelow hb) (ownNone _)⟩
  obtain ⟨⟨t, h1⟩, u, h2⟩ := h.aty x hx
  exact ⟨⟨t, h1.keep hk⟩, u, h2.keep hk⟩

theorem law_int : KeyLaw Tryd.prog 3 KInt := keyInt Tryd.underlying3
theorem ptr_info : ∃ j, Tryd.prog.info? 30 = some j ∧ j.size ≠ 0 := by
  have h : (Tryd.prog.info? 30).map (·.size) = some 2 := by kernel_rfl
  obtain ⟨j, h1, h2⟩ := Option.map_eq_some_iff.1 h
  exact ⟨j, h1, by omega⟩
theorem law_ptr : KeyLaw Tryd.prog 79 KPtr := by
  obtain ⟨j, h1, h2⟩ := ptr_info
  exact keyPtr Tryd.underlying79 h1 h2
theorem law_pair : KeyLaw Tryd.prog 107 KPair := by
  obtain ⟨j, h1, h2⟩ := ptr_info
  exact keyPair Tryd.underlying107 ⟨rfl, rfl, by decide⟩ ⟨rfl, rfl, by decide⟩ Tryd.underlying79 h1 h2 Tryd.isAgg79 (by kernel_rfl)
end
end Go.Proofs.YtndhglcdkegigaaDoor
