/-
  A region that draws its order, in which some operations are free of one another: after the loads, every order is walked step by step.
  Conditions: the Bool over the region ('freeB'), which the kernel reckons.
-/
import Derived.Test.YtndhglcdkegigaaDoorSched
namespace Go.Proofs.YtndhglcdkegigaaDoor
open Go Go.Sort Go.RowKit

section
variable {P : Program} {ops : Array Oper} {md : Region.Mode} {S : World → Prop} {Q : Exit → Act → World → Prop}

def lstOf (n : Nat) (is : List Nat) : Array Bool := is.foldl (fun l i => l.setIfInBounds i true) (Array.replicate n false)
def freeH (md : Region.Mode) (ops : Array Oper) (ls ks tl : List Nat) (listed : Array Bool) : Bool :=
  closedB md ops listed && ((List.range ops.size).all fun j => listed.getD j true || (ls ++ ks).contains j || tl.contains j) && (tl.all fun t => (ls ++ ks).all fun i => waitsStar md ops ops.size t i) && loadG md ops (ls ++ ks) (fun l => decide (l = lstOf ops.size ls)) ls listed
def freeB (ops : Array Oper) (ls ks tl : List Nat) : Bool := Region.noSelect ops && decide ((ls.length + ks.length) + tl.length = ops.size) && freeH .any ops ls ks tl (Array.replicate ops.size false)

/-- ls: loads, under S; ks: what may come in several orders, S behind each; tl: what writes, one by one. -/
theorem wp_region_free {id : Nat} {a : Act} {w : World} {l : List Oper} (S : World → Prop) (ls ks tl : List Nat) (hm : P.follows .mixedOrders = true) (hB : freeB l.toArray ls ks tl = true) (hS : S w.drew)
    (h : wpLoad P l.toArray S (fun a2 => ∀ ops a0 (W : Nat → Array Bool → Act → World → Prop), ops = l.toArray → a0 = a2 →
      (∀ L a w, seqL .any ops (ls ++ ks) tl L = true → wpList P ops (NoPanic Q) (opsAt ops tl) a w → W 0 L a w) →
      (∀ n L a w, Region.ready .any ops L ≠ [] → (∀ i ∈ Region.ready .any ops L, i ∈ ls ++ ks ∧ wpOp P ops (NoPanic Q) i (fun a' w' => S w' ∧ W n (L.setIfInBounds i true) a' w') a w) → W (n + 1) L a w) →
      W ks.length (lstOf ops.size ls) a0 w.drew) (opsAt l.toArray ls) a) : (Code.region id l.toArray true).wp P Q a w := by
  refine wp_region_noPanic ?_
  simp only [freeB, freeH, Bool.and_eq_true, decide_eq_true_eq] at hB
  obtain ⟨⟨hsel, hn⟩, ⟨⟨⟨hc, hv⟩, hl⟩, hx⟩⟩ := hB
  refine wp_region_any hm ?_
  have inv : Heads .any l.toArray (ls ++ ks) tl (Array.replicate l.toArray.size false) := ⟨closed_of hc, fun j hj hu => by
    have := List.all_eq_true.1 hv j (List.mem_range.2 hj)
    simp only [hu, Bool.false_or, Bool.or_eq_true, List.contains_iff_mem] at this
    exact this, fun t ht i hi => List.all_eq_true.1 (List.all_eq_true.1 hl t ht) i hi⟩
  have H := wpHs_loadG (P := P) (S := S) (Q := NoPanic Q) (n := ks.length) hsel (fun _ _ _ _ _ h => h) hS (fun listed a hf hg => by
    obtain rfl := of_decide_eq_true hf
    exact hg _ _ (wpHs P .any l.toArray (NoPanic Q) S (ls ++ ks) (fun listed' a' w' => seqL .any l.toArray (ls ++ ks) tl listed' = true ∧ wpList P l.toArray (NoPanic Q) (opsAt l.toArray tl) a' w')) rfl rfl (fun L a w h1 h2 => ⟨h1, h2⟩) (fun n L a w h1 h2 => ⟨h1, h2⟩)) ls _ a inv hx h
  have := wpAny_of_wpHs (fun listed' a' w' hL => wpAny_of_seqL tl listed' a' w' hL.1 hL.2) (ls.length + ks.length) _ a w.drew H
  rw [hn] at this
  exact this

theorem wpOp_at {i : Nat} {o : Oper} {K : Act → World → Prop} {a : Act} {w : World} (h0 : ops[i]? = some o) (hw : Region.wanted o (yielded ops a.tmps) = true) (h : Oper.wp P o a w K Q) : wpOp P ops Q i K a w := by
  unfold wpOp
  simp only [h0, hw, if_true]
  exact .inl h
end
end Go.Proofs.YtndhglcdkegigaaDoor
