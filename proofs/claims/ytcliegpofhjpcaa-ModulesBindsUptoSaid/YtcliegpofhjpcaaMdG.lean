/-
  The walk of modules.All.
  Conditions: names are at most 10^8 bytes long, lists at most 10^6 long, no more than 10^8 binds in all.
-/
import Derived.Test.YtcliegpofhjpcaaMdF
import Derived.Test.YtcliegpofhjpcaaMdE
import Derived.Test.YtcliegpofhjpcaaMdT
import Derived.Test.YtcliegpofhjpcaaBown
namespace Go.Proofs.Ytcliegpofhjpcaa
open Go.RowKit

structure FV where
  md : List UInt8
  ov : Value
  pv : Value
def fvC (x : FV) : List Value := [sv x.md, x.ov, x.pv]
theorem fvC_len (x : FV) : (fvC x).length = 3 := rfl
/-- A slice of faces, in blocks of S. -/
def FcsV (w : World) (S : Nat → Prop) (v : Value) (l : List Face) : Prop :=
  ∃ (A : Option Addr) (c : Nat) (vs : List FV), v = .slice A l.length c ∧ vs.length = l.length ∧ Row w S A (flt fvC vs) ∧ ∀ (i : Nat) (u : FV) (f : Face), vs[i]? = some u → l[i]? = some f → u.md = f.md ∧ StrsV w S u.ov f.own ∧ StrsV w S u.pv f.pub
theorem FcsV.keep {w w' : World} {S : Nat → Prop} {v : Value} {l : List Face} (h : FcsV w S v l) (hk : Kept S w w') : FcsV w' S v l := by
  obtain ⟨A, c, vs, e, hl, hr, hv⟩ := h
  exact ⟨A, c, vs, e, hl, hr.keep hk, fun i u f h1 h2 => ⟨(hv i u f h1 h2).1, (hv i u f h1 h2).2.1.keep hk, (hv i u f h1 h2).2.2.keep hk⟩⟩
theorem FcsV.more {w : World} {S S' : Nat → Prop} {v : Value} {l : List Face} (h : FcsV w S v l) (hS : ∀ b, S b → S' b) : FcsV w S' v l := by
  obtain ⟨A, c, vs, e, hl, hr, hv⟩ := h
  exact ⟨A, c, vs, e, hl, hr.more hS, fun i u f h1 h2 => ⟨(hv i u f h1 h2).1, (hv i u f h1 h2).2.1.more hS, (hv i u f h1 h2).2.2.more hS⟩⟩
theorem fv_at {w : World} {S : Nat → Prop} {A : Option Addr} {l : List FV} {i : Nat} {x : FV} (h : Row w S A (flt fvC l)) (hi : l[i]? = some x) :
    ∃ ad, A = some ad ∧ S ad.block ∧ w.cell? (ad.add (i * 3)) = some (sv x.md) ∧ w.cell? ⟨(ad.add (i * 3)).block, (ad.add (i * 3)).off + 1, none⟩ = some x.ov ∧ w.cell? ⟨(ad.add (i * 3)).block, (ad.add (i * 3)).off + 2, none⟩ = some x.pv := by
  have hlt := (List.getElem?_eq_some_iff.1 hi).1
  obtain ⟨ad, hA, hS, hc⟩ := h.addr (by rw [flt_length fvC_len]; omega)
  exact ⟨ad, hA, hS, hc _ _ (flt_at (j := 0) fvC_len hi rfl), cellOff (by decide) (hc _ _ (flt_at fvC_len hi rfl)), cellOff (by decide) (hc _ _ (flt_at fvC_len hi rfl))⟩
/-- Faces that are not too large. -/
structure Fit (l : List Face) : Prop where
  few : l.length ≤ 1000000
  md : ∀ f ∈ l, f.md.length ≤ 100000000
  own : ∀ f ∈ l, f.own.length ≤ 100000000 ∧ ∀ n ∈ f.own, n.length ≤ 100000000
  pub : ∀ f ∈ l, f.pub.length ≤ 100000000
  all : (univ l).length ≤ 100000000

/-- A list of binds in memory of the call's own, not in block g. -/
def BdsW (B g : Nat) (w : World) (v : Value) (x : List Key) : Prop := ∃ A c, v = .slice A x.length c ∧ x.length ≤ c ∧ Row w (fun b => Fr B w.heap.size b ∧ b ≠ g) A (flt bdC x)
theorem BdsW.kp {B g : Nat} {w w' : World} {v : Value} {x : List Key} (h : BdsW B g w v x) (hk : Kp (fun y => y = g) w w') : BdsW B g w' v x := by
  obtain ⟨A, c, h1, h2, h3⟩ := h
  exact ⟨A, c, h1, h2, (h3.keep (hk.kept fun b hb => ⟨hb.1.2, hb.2⟩)).more fun b hb => ⟨⟨hb.1.1, Nat.lt_of_lt_of_le hb.1.2 hk.size⟩, hb.2⟩⟩
/-- The lists that all modules give so far: a row of slices in block g. -/
def OutsAt (B g : Nat) (w : World) (outs : List (List Key)) : Prop :=
  ∃ vs : List Value, w.ownsRow B 33 1 (.slice (some ⟨g, 0, none⟩) outs.length outs.length) outs.length vs ∧ ∀ (i : Nat) (v : Value) (x : List Key), vs[i]? = some v → outs[i]? = some x → BdsW B g w v x
theorem OutsAt.below {B g : Nat} {w w' : World} {outs : List (List Key)} (h : OutsAt B g w outs) (hb : Below w.heap.size w w') : OutsAt B g w' outs := by
  obtain ⟨vs, h1, h2⟩ := h
  have hk : Kp (fun _ => False) w w' := Kp.ofBelow hb
  exact ⟨vs, hk.own h1 fun _ _ e => e, fun i v x h3 h4 => (h2 i v x h3 h4).kp (hk.more fun _ _ e => e.elim)⟩
theorem OutsAt.at_ {B g : Nat} {w : World} {outs : List (List Key)} (h : OutsAt B g w outs) {i : Nat} {x : List Key} (hx : outs[i]? = some x) : ∃ v, w.cell? ⟨g, i, none⟩ = some v ∧ w.frozen? ⟨g, i, none⟩ = false ∧ BdsW B g w v x := by
  obtain ⟨vs, h1, h2⟩ := h
  have hi := (List.getElem?_eq_some_iff.1 hx).1
  have hv : vs[i]? = some (vs[i]'(by rw [h1.1]; omega)) := List.getElem?_eq_getElem _
  exact ⟨_, (h1.cellAt i (by omega)).trans hv, h1.frozenAt i, h2 i _ x hv hx⟩
/-- The list of place i is another one. -/
theorem OutsAt.set {B g : Nat} {w : World} {outs : List (List Key)} (h : OutsAt B g w outs) {i : Nat} {x : List Key} {v : Value} (hv : BdsW B g w v x) : OutsAt B g (w.setCell ⟨g, i, none⟩ v) (outs.set i x) ∧ Kp (fun y => y = g) w (w.setCell ⟨g, i, none⟩ v) := by
  obtain ⟨vs, h1, h2⟩ := h
  have hk : Kp (fun y => y = g) w (w.setCell ⟨g, i, none⟩ v) := Kp.setCell (M := fun y => y = g) (Kp.refl _ _) (fun _ => rfl) _
  refine ⟨⟨vs.set i v, by rw [List.length_set]; exact (h1.stored i v).1, fun j u y hu hy => ?_⟩, hk⟩
  by_cases e : i = j
  · subst e
    obtain ⟨_, e1⟩ := List.getElem?_eq_some_iff.1 hu
    obtain ⟨_, e2⟩ := List.getElem?_eq_some_iff.1 hy
    simp only [List.getElem_set_self] at e1 e2
    subst e1
    subst e2
    exact hv.kp hk
  · rw [List.getElem?_set_ne e] at hu hy
    exact (h2 j u y hu hy).kp hk
/-- How many binds there are, read off the row in block g. -/
def totAt (w : World) (g n : Nat) : Nat := ((List.range n).map fun i => match w.cell? ⟨g, i, none⟩ with
  | some (.slice _ k _) => k
  | _ => 0).sum
theorem OutsAt.tot {B g : Nat} {w : World} {outs : List (List Key)} (h : OutsAt B g w outs) : totAt w g outs.length = tot outs := by
  unfold totAt Go.Proofs.Ytcliegpofhjpcaa.tot
  congr 1
  apply List.ext_getElem
  · simp
  · intro i h1 h2
    simp only [List.length_map, List.length_range] at h1
    simp only [List.getElem_map, List.getElem_range]
    obtain ⟨v, hc, _, A, c, rfl, _⟩ := h.at_ (List.getElem?_eq_getElem h1)
    rw [hc]

theorem fstI_snoc (l : List Face) (f : Face) (m : List UInt8) : fstI (l ++ [f]) m = (fstI l m).or (if f.md = m then some l.length else none) := by
  unfold fstI
  rw [List.findIdx?_append]
  cases List.findIdx? (fun f => decide (f.md = m)) l with
  | some k => rfl
  | none =>
    by_cases h : f.md = m <;> simp [h]
theorem fstI_lt {l : List Face} {m : List UInt8} {k : Nat} (h : fstI l m = some k) : k < l.length := by
  unfold fstI at h
  exact (List.findIdx?_eq_some_iff_findIdx_eq.1 h).1
def intE (n : Nat) : Value := .int .i64 (n : Int)
theorem infoB2 : (Try.prog.info? 33).map (fun i => (i.zero, i.size, i.bytes)) = some (some (.slice none 0 0), 1, 24) := by kernel_rfl
theorem madeN (q : Nat) : (madeCells (Value.slice none 0 0).cells (q * 1)).toList = List.replicate q (.slice none 0 0) := by
  unfold madeCells
  apply List.ext_getElem?
  intro i
  by_cases h : i < q
  · simp [h, Value.cells, Nat.mod_one]
  · simp [h]
end Go.Proofs.Ytcliegpofhjpcaa
