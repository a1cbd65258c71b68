/-
  A region that draws its order, walked by hand: one operation that can come, or two of them.
  Conditions: those of each theorem.
  A region that draws its order: loads first, under S; then what comes, by hand.
  Conditions: those of each theorem.
-/
import Derived.Test.YtkggmckfdkpldaaDoorBms
import Derived.Test.YtkggmckfdkpldaaDoorBsch
namespace Go.Proofs.YtkggmckfdkpldaaDoor
section
open Go Go.Sort Go.RowKit
section
variable {P : Program} {ops : Array Oper} {md : Region.Mode} {Q : Exit → Act → World → Prop}
theorem wpAny_end {listed : Array Bool} {a : Act} {w : World} (hr : Region.ready md ops listed = []) (h : Q .normal a w) : wpAny P md ops Q 0 listed a w := ⟨hr, h⟩
theorem wpAny_one {n k : Nat} {listed : Array Bool} {a : Act} {w : World} (hr : Region.ready md ops listed = [k]) (h : wpOp P ops Q k (fun a' w' => wpAny P md ops Q n (listed.setIfInBounds k true) a' w') a w) : wpAny P md ops Q (n + 1) listed a w :=
  ⟨fun e => (by rw [hr] at e; cases e), fun i hi => by
    rw [hr] at hi
    have hik : i = k := by simpa using hi
    subst hik
    exact h⟩
theorem wpAny_two {n k1 k2 : Nat} {listed : Array Bool} {a : Act} {w : World} (hr : Region.ready md ops listed = [k1, k2]) (h1 : wpOp P ops Q k1 (fun a' w' => wpAny P md ops Q n (listed.setIfInBounds k1 true) a' w') a w) (h2 : wpOp P ops Q k2 (fun a' w' => wpAny P md ops Q n (listed.setIfInBounds k2 true) a' w') a w) : wpAny P md ops Q (n + 1) listed a w :=
  ⟨fun e => (by rw [hr] at e; cases e), fun i hi => by
    rw [hr] at hi
    simp at hi
    rcases hi with rfl | rfl
    · exact h1
    · exact h2⟩
end
end

section
open Go Go.Sort Go.RowKit
section
variable {P : Program} {ops : Array Oper} {md : Region.Mode} {S : World → Prop} {Q : Exit → Act → World → Prop}
/-- Any order; behind each that is not of the tail, S. -/
def wpSa (P : Program) (md : Region.Mode) (ops : Array Oper) (Q : Exit → Act → World → Prop) (S : World → Prop) (tl : List Nat) : Nat → Array Bool → Act → World → Prop
  | 0, listed, a, w => Region.ready md ops listed = [] ∧ Q .normal a w
  | f + 1, listed, a, w => Region.ready md ops listed ≠ [] ∧ ∀ i ∈ Region.ready md ops listed, wpOp P ops Q i (fun a' w' => (i ∉ tl → S w') ∧ wpSa P md ops Q S tl f (listed.setIfInBounds i true) a' w') a w
theorem wpAny_of_wpSa {tl : List Nat} : ∀ (f : Nat) (listed : Array Bool) (a : Act) (w : World), wpSa P md ops Q S tl f listed a w → wpAny P md ops Q f listed a w
  | 0, _, _, _, h => h
  | f + 1, listed, a, w, h => ⟨fun h0 => absurd h0 h.1, fun i hi => wpOp_mono (fun a' w' h' => wpAny_of_wpSa f _ a' w' h'.2) (h.2 i hi)⟩
/-- While one of the loads is left, none of the tail can come up. -/
structure Lds (md : Region.Mode) (ops : Array Oper) (ls tl : List Nat) (listed : Array Bool) : Prop where
  closed : Closed md ops listed
  late : ∀ t ∈ tl, ∀ i ∈ ls, waitsStar md ops ops.size t i = true
theorem Lds.set {ls tl : List Nat} {listed : Array Bool} {i : Nat} (h : Lds md ops ls tl listed) (hi : i ∈ Region.ready md ops listed) : Lds md ops ls tl (listed.setIfInBounds i true) := ⟨h.closed.set hi, h.late⟩
theorem Lds.out {ls tl : List Nat} {listed : Array Bool} {i : Nat} (h : Lds md ops ls tl listed) (hi : i ∈ ls) (hun : listed.getD i true = false) : ∀ j ∈ Region.ready md ops listed, j ∉ tl := by
  intro j hj ht
  have := star_ready h.closed (h.late j ht i hi) hj
  rw [getD_both hun] at this
  cases this
theorem wpSa_first {ls tl : List Nat} {i : Nat} {oi : Oper} {v : Value} (hi : ops[i]? = some oi) (hsel : ∀ (j : Nat) (o : Oper) cs b, ops[j]? = some o → o.op ≠ .select cs b)
    (hQ : ∀ c a d v w, Q (.panic c) (a.put d v) w → Q (.panic c) a w) (hin : i ∈ ls) :
    ∀ (f : Nat) (listed : Array Bool) (a : Act) (w : World), Lds md ops ls tl listed →
      (∀ j oj, ops[j]? = some oj → j ≠ i → listed.getD j true = false → (∀ e ∈ oj.after, Region.binds md e = true → e.on ≠ i) → oi.apart ops oj = true) →
      i ∈ Region.ready md ops listed → YieldsIf P ops S oi v a → S w →
      wpSa P md ops Q S tl f (listed.setIfInBounds i true) (a.put oi.dst v) w → wpSa P md ops Q S tl (f + 1) listed a w := by
  intro f
  induction f with
  | zero =>
    intro listed a w inv _ hr hy hS H
    refine ⟨fun h => (by rw [h] at hr; cases hr), fun j hj => ?_⟩
    by_cases hji : j = i
    · subst hji; exact hy.wpOp hi hS ⟨fun _ => hS, H⟩
    · have := ready_mono hj hji
      rw [H.1] at this
      cases this
  | succ f ih =>
    intro listed a w inv hfree hr hy hS H
    have hun := (mem_ready.1 hr).1
    refine ⟨fun h => (by rw [h] at hr; cases hr), fun j hj => ?_⟩
    by_cases hji : j = i
    · subst hji; exact hy.wpOp hi hS ⟨fun _ => hS, H⟩
    · have hjt := inv.out hin hun j hj
      have h1 := H.2 j (ready_mono hj hji)
      obtain ⟨hjun, oj, hoj, hall⟩ := mem_ready.1 hj
      have hnot : ∀ e ∈ oj.after, Region.binds md e = true → e.on ≠ i := fun e he hb heq => by
        have h1 := hall e he hb
        rw [heq, getD_both hun] at h1
        cases h1
      have h2 := wpOp_putIf hoj (hfree j oj hoj hji hjun hnot) (fun cs b => hsel i oi cs b hi) (fun cs b => hsel j oj cs b hoj) (fun c a w => hQ c a _ _ w) hy h1
      have hfree' : ∀ k ok, ops[k]? = some ok → k ≠ i → (listed.setIfInBounds j true).getD k true = false →
          (∀ e ∈ ok.after, Region.binds md e = true → e.on ≠ i) → oi.apart ops ok = true := fun k ok hk hki hun hno => by
        refine hfree k ok hk hki ?_ hno
        by_cases hjk : j = k
        · subst hjk; exact hjun
        · rw [getD_set_ne true hjk] at hun; exact hun
      refine wpOp_mono (fun a' w' h3 => ⟨h3.2.1, ih (listed.setIfInBounds j true) a' w' (inv.set hj) hfree' (ready_mono hr (Ne.symm hji)) h3.1 (h3.2.1 hjt) ?_⟩) h2
      rw [Array.setIfInBounds_comm _ _ hji]
      exact h3.2.2
def loadA (md : Region.Mode) (ops : Array Oper) : List Nat → Array Bool → Bool
  | [], _ => true
  | k :: r, listed => (Region.ready md ops listed).contains k && Region.free md ops listed k && loadA md ops r (listed.setIfInBounds k true)
def loadB (ops : Array Oper) (ls tl : List Nat) : Bool :=
  Region.noSelect ops && closedB .any ops (Array.replicate ops.size false) && (tl.all fun t => ls.all fun i => waitsStar .any ops ops.size t i) && loadA .any ops ls (Array.replicate ops.size false)
theorem wpSa_load {ls tl : List Nat} {w : World} {n : Nat} (hsel : Region.noSelect ops = true) (hQ : ∀ c a d v w, Q (.panic c) (a.put d v) w → Q (.panic c) a w) (hS : S w) :
    ∀ (l : List Nat) (listed : Array Bool) (a : Act), (∀ k ∈ l, k ∈ ls) → Lds md ops ls tl listed → loadA md ops l listed = true →
      wpLoad P ops S (fun a' => wpSa P md ops Q S tl n (l.foldl (fun b i => b.setIfInBounds i true) listed) a' w) (opsAt ops l) a → wpSa P md ops Q S tl (l.length + n) listed a w
  | [], listed, a, _, _, _, h => by
    rw [List.length_nil, Nat.zero_add]
    exact h
  | k :: l, listed, a, hl, inv, hB, h => by
    simp only [loadA, Bool.and_eq_true] at hB
    obtain ⟨⟨hr, hf⟩, hB'⟩ := hB
    have hr' : k ∈ Region.ready md ops listed := by simpa using hr
    obtain ⟨o, h0⟩ := ready_lt hr'
    have e : opsAt ops (k :: l) = o :: opsAt ops l := by simp [opsAt, h0]
    rw [e] at h
    obtain ⟨v, hy, hK⟩ := h
    rw [List.length_cons, show l.length + 1 + n = (l.length + n) + 1 by omega]
    exact wpSa_first h0 (Region.noSelect_spec hsel) hQ (hl k (by simp)) (l.length + n) listed a w inv (Region.free_spec h0 hf) hr' hy hS
      (wpSa_load hsel hQ hS l _ _ (fun j hj => hl j (by simp [hj])) (inv.set hr') hB' hK)
/-- ls: loads, under S, one by one; then by hand (wpSa_one, wpSa_two, wpSa_end): behind each that is not in tl, S. -/
theorem wp_region_loads {id : Nat} {a : Act} {w : World} {l : List Oper} (S : World → Prop) (ls tl : List Nat) (n : Nat) (hn : ls.length + n = l.toArray.size) (hm : P.follows .mixedOrders = true) (hB : loadB l.toArray ls tl = true) (hS : S w.drew)
    (h : wpLoad P l.toArray S (fun a' => wpSa P .any l.toArray (NoPanic Q) S tl n (ls.foldl (fun b i => b.setIfInBounds i true) (Array.replicate l.toArray.size false)) a' w.drew) (opsAt l.toArray ls) a) : (Code.region id l.toArray true).wp P Q a w := by
  refine wp_region_noPanic ?_
  simp only [loadB, Bool.and_eq_true] at hB
  obtain ⟨⟨⟨hsel, hc⟩, hl⟩, hx⟩ := hB
  refine wp_region_any hm ?_
  have inv : Lds .any l.toArray ls tl (Array.replicate l.toArray.size false) := ⟨closed_of hc, fun t ht i hi => List.all_eq_true.1 (List.all_eq_true.1 hl t ht) i hi⟩
  have H := wpSa_load (P := P) (S := S) (Q := NoPanic Q) (ls := ls) (n := n) hsel (fun _ _ _ _ _ h => h) hS ls _ a (fun _ h => h) inv hx h
  rw [hn] at H
  exact wpAny_of_wpSa _ _ _ _ H
theorem wpSa_end {tl : List Nat} {listed : Array Bool} {a : Act} {w : World} (hr : Region.ready md ops listed = []) (h : Q .normal a w) : wpSa P md ops Q S tl 0 listed a w := ⟨hr, h⟩
theorem wpSa_one {tl : List Nat} {n k : Nat} {listed : Array Bool} {a : Act} {w : World} (hr : Region.ready md ops listed = [k]) (h : wpOp P ops Q k (fun a' w' => (k ∉ tl → S w') ∧ wpSa P md ops Q S tl n (listed.setIfInBounds k true) a' w') a w) : wpSa P md ops Q S tl (n + 1) listed a w :=
  ⟨fun e => (by rw [hr] at e; cases e), fun i hi => by
    rw [hr] at hi
    have hik : i = k := by simpa using hi
    subst hik
    exact h⟩
theorem wpSa_two {tl : List Nat} {n k1 k2 : Nat} {listed : Array Bool} {a : Act} {w : World} (hr : Region.ready md ops listed = [k1, k2]) (h1 : wpOp P ops Q k1 (fun a' w' => (k1 ∉ tl → S w') ∧ wpSa P md ops Q S tl n (listed.setIfInBounds k1 true) a' w') a w) (h2 : wpOp P ops Q k2 (fun a' w' => (k2 ∉ tl → S w') ∧ wpSa P md ops Q S tl n (listed.setIfInBounds k2 true) a' w') a w) : wpSa P md ops Q S tl (n + 1) listed a w :=
  ⟨fun e => (by rw [hr] at e; cases e), fun i hi => by
    rw [hr] at hi
    simp at hi
    rcases hi with rfl | rfl
    · exact h1
    · exact h2⟩
end
end
end Go.Proofs.YtkggmckfdkpldaaDoor
