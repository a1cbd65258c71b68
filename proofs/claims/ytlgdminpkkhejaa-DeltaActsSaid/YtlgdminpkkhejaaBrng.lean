/-
  A loop over a map, in whatever order: entries that came so far.
  Conditions: those of each theorem.
-/
import Derived.Maps.RangeRun
import Derived.Test.YtlgdminpkkhejaaBmap
namespace Go.Proofs.Ytlgdminpkkhejaa
open Go.RowKit Go.MapKept
section
variable {P : Program}

/-- Iterator r over the map b, which holds l; what came so far. -/
def RangeAt (w : World) (b r : Nat) (l done : List (Value × Value)) : Prop :=
  ∃ es clock since seen c0, w.heap[b]? = some (.map es clock) ∧ es.toList.map (fun e => (e.key, e.val)) = l ∧ Stamped es clock ∧ w.heap[r]? = some (.mapIter (some b) since seen c0) ∧ (∀ x ∈ es.toList, x.born < since) ∧ since ≤ c0 ∧ since ≤ clock ∧
    (∀ x ∈ es.toList, seen.contains x.born = true → (x.key, x.val) ∈ done) ∧ (∀ p ∈ done, p ∈ l)
theorem RangeAt.map {w : World} {b r : Nat} {l done : List (Value × Value)} (h : RangeAt w b r l done) : MapAt w b l := by
  obtain ⟨es, clock, since, seen, c0, h1, h2, h3, _⟩ := h
  exact ⟨es, clock, h1, h2, h3⟩
theorem RangeAt.mem {w : World} {b r : Nat} {l done : List (Value × Value)} (h : RangeAt w b r l done) : ∀ p ∈ done, p ∈ l := by
  obtain ⟨es, clock, since, seen, c0, h1, h2, h3, h4, h5, h6, h7, h8, h9⟩ := h
  exact h9
theorem RangeAt.ne {w : World} {b r : Nat} {l done : List (Value × Value)} (h : RangeAt w b r l done) : r ≠ b := by
  obtain ⟨es, clock, since, seen, c0, h1, h2, h3, h4, _⟩ := h
  intro e
  rw [e, h1] at h4
  cases h4
theorem RangeAt.lt {w : World} {b r : Nat} {l done : List (Value × Value)} (h : RangeAt w b r l done) : r < w.heap.size := by
  obtain ⟨es, clock, since, seen, c0, h1, h2, h3, h4, _⟩ := h
  exact lt_of_heap h4
theorem RangeAt.not_cells {w : World} {b r : Nat} {l done : List (Value × Value)} (h : RangeAt w b r l done) {cs : Array Value} {T : TypeId} {fr : Nat × Nat} : w.heap[r]? ≠ some (.cells cs T fr) := by
  obtain ⟨es, clock, since, seen, c0, h1, h2, h3, h4, _⟩ := h
  rw [h4]
  intro e
  cases e
theorem RangeAt.same {w w' : World} {b r : Nat} {l done : List (Value × Value)} (h : RangeAt w b r l done) (hb : w'.heap[b]? = w.heap[b]?) (hr : w'.heap[r]? = w.heap[r]?) : RangeAt w' b r l done := by
  obtain ⟨es, clock, since, seen, c0, h1, h2, h3, h4, h5⟩ := h
  exact ⟨es, clock, since, seen, c0, hb.trans h1, h2, h3, hr.trans h4, h5⟩

/-- How many are still to come, read off the world. -/
def rangeLeft (w : World) (b r : Nat) : Nat :=
  match w.heap[b]?, w.heap[r]? with
  | some (.map es _), some (.mapIter _ _ seen _) => (leftOf es seen).size
  | _, _ => 0
theorem rangeLeft_same {w w' : World} {b r : Nat} (hb : w'.heap[b]? = w.heap[b]?) (hr : w'.heap[r]? = w.heap[r]?) : rangeLeft w' b r = rangeLeft w b r := by
  unfold rangeLeft
  rw [hb, hr]

theorem run_range_start {w : World} {b : Nat} {l : List (Value × Value)} {t k e : TypeId} (h : MapAt w b l) (ht : P.underlying t = some (.map k e)) :
    ∃ w', (Instr.range t (.map (some b))).run P w = .ok (.pointer (some ⟨w.heap.size, 0, none⟩)) w' ∧ RangeAt w' b w.heap.size l [] ∧ Below w.heap.size w w' := by
  obtain ⟨es, clock, hb, hl, hs⟩ := h
  refine ⟨_, run_range_map w t k e b es clock ht hb, ⟨es, clock, clock, #[], clock, (((Below.refl w.heap.size w).alloc (Nat.le_refl _) _).block b (lt_of_heap hb)).trans hb, hl, hs, alloc1 w _, hs.1, Nat.le_refl _, Nat.le_refl _, fun x _ hx => by simp at hx, fun p hp => by cases hp⟩, (Below.refl _ _).alloc (Nat.le_refl _) _⟩

theorem run_range_next {w : World} {b r : Nat} {l done : List (Value × Value)} (h : RangeAt w b r l done) (ty : TypeId) :
    ((∀ p ∈ l, p ∈ done) ∧ (Instr.next (.pointer (some ⟨r, 0, none⟩)) false ty).run P w = .ok (.tuple #[.bool false]) w) ∨
    ∃ k v w', (k, v) ∈ l ∧ (Instr.next (.pointer (some ⟨r, 0, none⟩)) false ty).run P w = .ok (.tuple #[.bool true, k, v]) w' ∧ RangeAt w' b r l ((k, v) :: done) ∧ Kp (fun y => y = r) w w' ∧ rangeLeft w' b r < rangeLeft w b r ∧
      (Instr.entry (.pointer (some ⟨r, 0, none⟩))).run P w' = .ok (.tuple #[k, v]) w' := by
  have hne := h.ne
  obtain ⟨es, clock, since, seen, c0, hb, rfl, hs, hr, hold, hsc, hsk, hseen, hdone⟩ := h
  rcases run_next_at (P := P) w ty r b since c0 seen es clock hr hb hold hsc with ⟨h0, hrun⟩ | ⟨e, he, w1, hal, hrun⟩
  · refine .inl ⟨fun p hp => ?_, hrun⟩
    obtain ⟨x, hx, rfl⟩ := List.mem_map.1 hp
    exact hseen x hx (all_seen es seen h0 x hx)
  · obtain ⟨hem, hes⟩ := mem_left he
    have hr1 : w1.heap[r]? = some (.mapIter (some b) since seen c0) := by rcases hal with rfl | rfl <;> exact hr
    have hb1 : w1.heap[b]? = some (.map es clock) := by rcases hal with rfl | rfl <;> exact hb
    have hset := heap_set (o' := .mapIter (some b) since (seen.push e.born) clock) hr1
    have hb' : (Go.ChangeMaps.setBlock w1 r (.mapIter (some b) since (seen.push e.born) clock)).heap[b]? = some (.map es clock) := (hset.2 b (fun e1 => hne e1.symm)).trans hb1
    refine .inr ⟨e.key, e.val, _, List.mem_map_of_mem (f := fun e : MapEntry => (e.key, e.val)) hem, hrun, ⟨es, clock, since, seen.push e.born, clock, hb', rfl, hs, hset.1, hold, hsk, hsk, fun x hx hc => ?_, fun p hp => ?_⟩, ?_, ?_, run_entry_at _ r b since seen es clock e hset.1 hb' hem hs.2.1⟩
    · rw [contains_push] at hc
      rcases Bool.or_eq_true_iff.1 hc with hc | hc
      · exact List.mem_cons_of_mem _ (hseen x hx hc)
      · obtain rfl := born_inj hs.2.1 hx hem (by simpa using hc)
        exact List.mem_cons_self
    · rcases List.mem_cons.1 hp with rfl | hp
      · exact List.mem_map_of_mem (f := fun e : MapEntry => (e.key, e.val)) hem
      · exact hdone p hp
    · rcases hal with rfl | rfl
      · exact ⟨rfl, rfl, rfl, by simp [Go.ChangeMaps.setBlock], fun i _ hi => hset.2 i (fun e1 => hi e1)⟩
      · exact ⟨rfl, rfl, rfl, by simp [Go.ChangeMaps.setBlock], fun i _ hi => hset.2 i (fun e1 => hi e1)⟩
    · unfold rangeLeft
      rw [hb', show (Go.ChangeMaps.setBlock w1 r (.mapIter (some b) since (seen.push e.born) clock)).heap[r]? = _ from hset.1, hb, hr]
      exact left_shrinks es seen e he
end
end Go.Proofs.Ytlgdminpkkhejaa
