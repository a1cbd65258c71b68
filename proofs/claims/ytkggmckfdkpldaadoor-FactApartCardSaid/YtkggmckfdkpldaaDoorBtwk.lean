/-
  A region that draws its order, walked in one order: at each step what yields a value under S is taken first, or the one operation that can come is walked.
  Conditions: the Bool over the region ('mixB'), which the kernel reckons.
  A region that draws its order: loads, then two makers in either order, then what comes one by one (S behind each), then a tail.
  Conditions: the Bool over the region ('twkB'), which the kernel reckons.
-/
import Derived.Test.YtkggmckfdkpldaaDoorBsch
namespace Go.Proofs.YtkggmckfdkpldaaDoor
section
open Go Go.Sort Go.RowKit
section
variable {P : Program} {ops : Array Oper} {md : Region.Mode} {S : World → Prop} {Q : Exit → Act → World → Prop}

def mixL (md : Region.Mode) (ops : Array Oper) (hd tl : List Nat) : List (Bool × Nat) → Array Bool → Bool
  | [], listed => seqL md ops hd tl listed
  | (true, k) :: r, listed => hd.contains k && (Region.ready md ops listed).contains k && Region.free md ops listed k && mixL md ops hd tl r (listed.setIfInBounds k true)
  | (false, k) :: r, listed => decide (Region.ready md ops listed = [k]) && hd.contains k && mixL md ops hd tl r (listed.setIfInBounds k true)
def mixAt (ops : Array Oper) (l : List (Bool × Nat)) : List (Bool × Oper) := l.filterMap fun x => (ops[x.2]?).map fun o => (x.1, o)
def wpMix (P : Program) (ops : Array Oper) (Q : Exit → Act → World → Prop) (S : World → Prop) (K : Act → World → Prop) : List (Bool × Oper) → Act → World → Prop
  | [], a, w => K a w
  | (true, o) :: r, a, w => ∃ v, YieldsIf P ops S o v a ∧ wpMix P ops Q S K r (a.put o.dst v) w
  | (false, o) :: r, a, w => Region.wanted o (yielded ops a.tmps) = true ∧ Oper.wp P o a w (fun a' w' => S w' ∧ wpMix P ops Q S K r a' w') Q

theorem wpHs_mix {hd tl : List Nat} {K : Act → World → Prop} (hsel : Region.noSelect ops = true) (hQ : ∀ c a d v w, Q (.panic c) (a.put d v) w → Q (.panic c) a w) :
    ∀ (l : List (Bool × Nat)) (listed : Array Bool) (a : Act) (w : World), Heads md ops hd tl listed → S w → mixL md ops hd tl l listed = true → wpMix P ops Q S K (mixAt ops l) a w →
    wpHs P md ops Q S hd (fun listed' a' w' => seqL md ops hd tl listed' = true ∧ K a' w') l.length listed a w
  | [], _, _, _, _, _, hB, h => ⟨hB, h⟩
  | (true, k) :: l, listed, a, w, inv, hS, hB, h => by
    simp only [mixL, Bool.and_eq_true] at hB
    obtain ⟨⟨⟨hk, hr⟩, hf⟩, hB'⟩ := hB
    have hr' : k ∈ Region.ready md ops listed := by simpa using hr
    obtain ⟨o, h0⟩ := ready_lt hr'
    have e : mixAt ops ((true, k) :: l) = (true, o) :: mixAt ops l := by simp [mixAt, h0]
    rw [e] at h
    obtain ⟨v, hy, hK⟩ := h
    exact wpHs_first h0 (Region.noSelect_spec hsel) hQ (by simpa using hk) (fun listed' a' w' hL => seqL_ready hL.1) l.length listed a w inv (Region.free_spec h0 hf) hr' hy hS
      (wpHs_mix hsel hQ l _ _ w (inv.set hr') hS hB' hK)
  | (false, k) :: l, listed, a, w, inv, hS, hB, h => by
    simp only [mixL, Bool.and_eq_true, decide_eq_true_eq] at hB
    obtain ⟨⟨hr, hk⟩, hB⟩ := hB
    refine ⟨fun h1 => (by rw [hr] at h1; cases h1), fun i hi => ?_⟩
    have hi0 := hi
    obtain ⟨o, h0⟩ := ready_lt hi
    rw [hr] at hi
    have hik : i = k := by simpa using hi
    subst hik
    have e : mixAt ops ((false, i) :: l) = (false, o) :: mixAt ops l := by simp [mixAt, h0]
    rw [e] at h
    refine ⟨by simpa using hk, ?_⟩
    have hw : wpOp P ops Q i (fun a' w' => S w' ∧ wpMix P ops Q S K (mixAt ops l) a' w') a w := by
      unfold wpOp
      simp only [h0, h.1, if_true]
      exact .inl h.2
    exact wpOp_mono (fun a' w' h' => ⟨h'.1, wpHs_mix hsel hQ l _ a' w' (inv.set hi0) h'.1 hB h'.2⟩) hw

def mixH (md : Region.Mode) (ops : Array Oper) (l : List (Bool × Nat)) (tl : List Nat) (listed : Array Bool) : Bool :=
  closedB md ops listed && ((List.range ops.size).all fun j => listed.getD j true || (l.map (·.2)).contains j || tl.contains j) && (tl.all fun t => (l.map (·.2)).all fun i => waitsStar md ops ops.size t i) && mixL md ops (l.map (·.2)) tl l listed
def mixB (ops : Array Oper) (l : List (Bool × Nat)) (tl : List Nat) : Bool := Region.noSelect ops && decide (l.length + tl.length = ops.size) && mixH .any ops l tl (Array.replicate ops.size false)

/-- l: one by one, what yields under S (true), or the only one that can come (false), S behind each; tl: what writes, one by one. -/
theorem wp_region_mix {id : Nat} {a : Act} {w : World} {ol : List Oper} (S : World → Prop) (l : List (Bool × Nat)) (tl : List Nat) (hm : P.follows .mixedOrders = true) (hB : mixB ol.toArray l tl = true) (hS : S w.drew)
    (h : wpMix P ol.toArray (NoPanic Q) S (fun a' w' => wpList P ol.toArray (NoPanic Q) (opsAt ol.toArray tl) a' w') (mixAt ol.toArray l) a w.drew) : (Code.region id ol.toArray true).wp P Q a w := by
  refine wp_region_noPanic ?_
  simp only [mixB, mixH, Bool.and_eq_true, decide_eq_true_eq] at hB
  obtain ⟨⟨hsel, hn⟩, ⟨⟨⟨hc, hv⟩, hl⟩, hx⟩⟩ := hB
  refine wp_region_any hm ?_
  have inv : Heads .any ol.toArray (l.map (·.2)) tl (Array.replicate ol.toArray.size false) := ⟨closed_of hc, fun j hj hu => by
    have := List.all_eq_true.1 hv j (List.mem_range.2 hj)
    simp only [hu, Bool.false_or, Bool.or_eq_true, List.contains_iff_mem] at this
    exact this, fun t ht i hi => List.all_eq_true.1 (List.all_eq_true.1 hl t ht) i hi⟩
  have H := wpHs_mix (P := P) (S := S) (Q := NoPanic Q) hsel (fun _ _ _ _ _ h => h) l _ a w.drew inv hS hx h
  have := wpAny_of_wpHs (fun listed' a' w' hL => wpAny_of_seqL tl listed' a' w' hL.1 hL.2) l.length _ a w.drew H
  rw [hn] at this
  exact this

theorem wpMix_load {K : Act → World → Prop} {o : Oper} {r : List (Bool × Oper)} {a : Act} {w : World} (v : Value) (hw : Region.wanted o (yielded ops a.tmps) = true) (hy : ∀ w, S w → (execOp a.eval o).run P w = .ok (.value v) w) (h : wpMix P ops Q S K r (a.put o.dst v) w) : wpMix P ops Q S K ((true, o) :: r) a w :=
  ⟨v, .inl ⟨hw, hy⟩, h⟩
theorem wpMix_skip {K : Act → World → Prop} {o : Oper} {r : List (Bool × Oper)} {a : Act} {w : World} (hw : Region.wanted o (yielded ops a.tmps) = false) (h : wpMix P ops Q S K r (a.put o.dst undef) w) : wpMix P ops Q S K ((true, o) :: r) a w :=
  ⟨undef, .inr ⟨hw, rfl⟩, h⟩
theorem wpMix_keep {K : Act → World → Prop} {o : Oper} {r : List (Bool × Oper)} {a : Act} {w : World} (hw : Region.wanted o (yielded ops a.tmps) = true) (h : Oper.wp P o a w (fun a' w' => S w' ∧ wpMix P ops Q S K r a' w') Q) : wpMix P ops Q S K ((false, o) :: r) a w := ⟨hw, h⟩
theorem wpMix_nil {K : Act → World → Prop} {a : Act} {w : World} (h : K a w) : wpMix P ops Q S K [] a w := h
end
end

section
open Go Go.Sort Go.RowKit
section
variable {P : Program} {ops : Array Oper} {md : Region.Mode} {S : World → Prop} {Q : Exit → Act → World → Prop}

def twkL (md : Region.Mode) (ops : Array Oper) (hd tl : List Nat) (k1 k2 : Nat) (ks : List Nat) (listed : Array Bool) : Bool :=
  decide (Region.ready md ops listed = [k1, k2]) && hd.contains k1 && hd.contains k2 && keepL md ops hd tl (k2 :: ks) (listed.setIfInBounds k1 true) && keepL md ops hd tl (k1 :: ks) (listed.setIfInBounds k2 true)
def twkH (md : Region.Mode) (ops : Array Oper) (ls : List Nat) (k1 k2 : Nat) (ks tl : List Nat) (listed : Array Bool) : Bool :=
  closedB md ops listed && ((List.range ops.size).all fun j => listed.getD j true || (ls ++ k1 :: k2 :: ks).contains j || tl.contains j) && (tl.all fun t => (ls ++ k1 :: k2 :: ks).all fun i => waitsStar md ops ops.size t i) && loadG md ops (ls ++ k1 :: k2 :: ks) (twkL md ops (ls ++ k1 :: k2 :: ks) tl k1 k2 ks) ls listed
def twkB (ops : Array Oper) (ls : List Nat) (k1 k2 : Nat) (ks tl : List Nat) : Bool := Region.noSelect ops && decide ((ls.length + (ks.length + 2)) + tl.length = ops.size) && twkH .any ops ls k1 k2 ks tl (Array.replicate ops.size false)

theorem wpHs_twk {hd tl : List Nat} {K : Act → World → Prop} {k1 k2 : Nat} {ks : List Nat} {listed : Array Bool} {a : Act} {w : World} (hB : twkL md ops hd tl k1 k2 ks listed = true)
    (h1 : wpKeep P ops Q S K (opsAt ops (k1 :: k2 :: ks)) a w) (h2 : wpKeep P ops Q S K (opsAt ops (k2 :: k1 :: ks)) a w) : wpHs P md ops Q S hd (fun listed' a' w' => seqL md ops hd tl listed' = true ∧ K a' w') (ks.length + 2) listed a w := by
  simp only [twkL, Bool.and_eq_true, decide_eq_true_eq] at hB
  obtain ⟨⟨⟨⟨hr, hk1⟩, hk2⟩, hB1⟩, hB2⟩ := hB
  have one : ∀ (i j : Nat), i ∈ Region.ready md ops listed → keepL md ops hd tl (j :: ks) (listed.setIfInBounds i true) = true → wpKeep P ops Q S K (opsAt ops (i :: j :: ks)) a w →
      wpOp P ops Q i (fun a' w' => S w' ∧ wpHs P md ops Q S hd (fun listed' a' w' => seqL md ops hd tl listed' = true ∧ K a' w') (ks.length + 1) (listed.setIfInBounds i true) a' w') a w := fun i j hi hB h => by
    obtain ⟨o, h0⟩ := ready_lt hi
    have e : opsAt ops (i :: j :: ks) = o :: opsAt ops (j :: ks) := by simp [opsAt, h0]
    rw [e] at h
    have hw : wpOp P ops Q i (fun a' w' => S w' ∧ wpKeep P ops Q S K (opsAt ops (j :: ks)) a' w') a w := by
      unfold wpOp
      simp only [h0, h.1, if_true]
      exact .inl h.2
    exact wpOp_mono (fun a' w' h' => ⟨h'.1, wpHs_keep (j :: ks) _ a' w' hB h'.2⟩) hw
  refine ⟨fun h => (by rw [hr] at h; cases h), fun i hi => ?_⟩
  have hi' := hi
  rw [hr] at hi'
  simp at hi'
  rcases hi' with rfl | rfl
  · exact ⟨by simpa using hk1, one _ _ hi hB1 h1⟩
  · exact ⟨by simpa using hk2, one _ _ hi hB2 h2⟩

/-- ls: loads, under S; k1 and k2: two makers in either order; ks: what comes behind, one by one; S behind each; tl: the rest, one by one. -/
theorem wp_region_twk {id : Nat} {a : Act} {w : World} {l : List Oper} (S : World → Prop) (ls : List Nat) (k1 k2 : Nat) (ks tl : List Nat) (hm : P.follows .mixedOrders = true) (hB : twkB l.toArray ls k1 k2 ks tl = true)
    (hS : S w.drew)
    (h : wpLoad P l.toArray S (fun a2 => wpKeep P l.toArray (NoPanic Q) S (fun a3 w3 => wpList P l.toArray (NoPanic Q) (opsAt l.toArray tl) a3 w3) (opsAt l.toArray (k1 :: k2 :: ks)) a2 w.drew ∧ wpKeep P l.toArray (NoPanic Q) S (fun a3 w3 => wpList P l.toArray (NoPanic Q) (opsAt l.toArray tl) a3 w3) (opsAt l.toArray (k2 :: k1 :: ks)) a2 w.drew) (opsAt l.toArray ls) a) : (Code.region id l.toArray true).wp P Q a w := by
  refine wp_region_noPanic ?_
  simp only [twkB, twkH, Bool.and_eq_true, decide_eq_true_eq] at hB
  obtain ⟨⟨hsel, hn⟩, ⟨⟨⟨hc, hv⟩, hl⟩, hx⟩⟩ := hB
  refine wp_region_any hm ?_
  have inv : Heads .any l.toArray (ls ++ k1 :: k2 :: ks) tl (Array.replicate l.toArray.size false) := ⟨closed_of hc, fun j hj hu => by
    have := List.all_eq_true.1 hv j (List.mem_range.2 hj)
    simp only [hu, Bool.false_or, Bool.or_eq_true, List.contains_iff_mem] at this
    exact this, fun t ht i hi => List.all_eq_true.1 (List.all_eq_true.1 hl t ht) i hi⟩
  have H := wpHs_loadG (P := P) (S := S) (Q := NoPanic Q) (n := ks.length + 2) hsel (fun _ _ _ _ _ h => h) hS (fun listed a hf hg => wpHs_twk hf hg.1 hg.2) ls _ a inv hx h
  have := wpAny_of_wpHs (fun listed' a' w' hL => wpAny_of_seqL tl listed' a' w' hL.1 hL.2) (ls.length + (ks.length + 2)) _ a w.drew H
  rw [hn] at this
  exact this
end

/-- The front of an own row is one's own, with the rest as room. -/
theorem ownFront {w : World} {base : Nat} {e : TypeId} {size k c : Nat} {A : Option Addr} {xs : List Value} (h : w.ownsRow base e size (.slice A k c) k xs) {j : Nat} (hj : j ≤ k) : w.ownsRow base e size (.slice A j c) j (xs.take (j * size)) := by
  have hm : j * size ≤ k * size := Nat.mul_le_mul_right _ hj
  refine ⟨by rw [List.length_take, h.1, Nat.min_eq_left hm], ?_⟩
  rcases h.2 with ⟨hv, h0⟩ | ⟨g, cap, cur, hv, hb, hg, h1, h2, h3, h4⟩
  · obtain ⟨rfl, rfl, rfl⟩ := Value.slice.inj hv
    have : j = 0 := by omega
    subst this
    exact .inl ⟨rfl, rfl⟩
  · obtain ⟨rfl, _, rfl⟩ := Value.slice.inj hv
    refine .inr ⟨g, c, cur, rfl, hb, hg, by omega, h2, h3, ?_⟩
    rw [← h4, List.take_take, Nat.min_eq_left hm]

/-- Cells that hold these values. -/
def AtCells : List (Addr × Value) → World → Prop
  | [], _ => True
  | x :: r, w => w.cell? x.1 = some x.2 ∧ AtCells r w
theorem AtCells.below {w w' : World} (hb : Below w.heap.size w w') : ∀ {cs : List (Addr × Value)}, AtCells cs w → AtCells cs w'
  | [], _ => trivial
  | _ :: _, h => ⟨(hb.cell (block_lt_of_cell h.1)).trans h.1, AtCells.below hb h.2⟩
end
end Go.Proofs.YtkggmckfdkpldaaDoor
