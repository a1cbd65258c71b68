/-
  A loop over a map, in whatever order, each entry once.
  Conditions: those of each theorem.
-/
import Derived.Test.YtcliegpofhjpcaaBrng
import Derived.Test.YtcliegpofhjpcaaBmg
import Derived.RangeFuncGives
namespace Go.Proofs.Ytcliegpofhjpcaa
open Go.RowKit Go.MapKept
theorem nodup_le {α : Type} : ∀ {d l : List α}, d.Nodup → (∀ p ∈ d, p ∈ l) → d.length ≤ l.length
  | [], _, _, _ => Nat.zero_le _
  | a :: d, l, h, hs => by
    obtain ⟨s, t, rfl⟩ := List.append_of_mem (hs a (by simp))
    have h2 := List.nodup_cons.1 h
    have := nodup_le (d := d) (l := s ++ t) h2.2 fun p hp => by
      have hm := hs p (List.mem_cons_of_mem _ hp)
      rw [List.mem_append, List.mem_cons] at hm
      rw [List.mem_append]
      rcases hm with hm | hm | hm
      · exact .inl hm
      · subst hm
        exact absurd hp h2.1
      · exact .inr hm
    simp only [List.length_append, List.length_cons] at this ⊢
    omega
section
variable {P : Program}

/-- Iterator r over the map b, which holds l; just what came so far, each once. -/
def RangeX (w : World) (b r : Nat) (l done : List (Value × Value)) : Prop :=
  ∃ es clock since seen c0, w.heap[b]? = some (.map es clock) ∧ es.toList.map (fun e => (e.key, e.val)) = l ∧ Stamped es clock ∧ w.heap[r]? = some (.mapIter (some b) since seen c0) ∧ (∀ x ∈ es.toList, x.born < since) ∧ since ≤ c0 ∧ since ≤ clock ∧
    (∀ x ∈ es.toList, seen.contains x.born = true ↔ (x.key, x.val) ∈ done) ∧ (∀ p ∈ done, p ∈ l) ∧ done.Nodup
theorem RangeX.lt {w : World} {b r : Nat} {l done : List (Value × Value)} (h : RangeX w b r l done) : r < w.heap.size := by
  obtain ⟨es, clock, since, seen, c0, h1, h2, h3, h4, _⟩ := h
  exact lt_of_heap h4
theorem RangeX.ltb {w : World} {b r : Nat} {l done : List (Value × Value)} (h : RangeX w b r l done) : b < w.heap.size := by
  obtain ⟨es, clock, since, seen, c0, h1, _⟩ := h
  exact lt_of_heap h1
theorem RangeX.mem {w : World} {b r : Nat} {l done : List (Value × Value)} (h : RangeX w b r l done) : ∀ p ∈ done, p ∈ l := by
  obtain ⟨es, clock, since, seen, c0, h1, h2, h3, h4, h5, h6, h7, h8, h9, _⟩ := h
  exact h9
theorem RangeX.nodup {w : World} {b r : Nat} {l done : List (Value × Value)} (h : RangeX w b r l done) : done.Nodup := by
  obtain ⟨es, clock, since, seen, c0, h1, h2, h3, h4, h5, h6, h7, h8, h9, h10⟩ := h
  exact h10
theorem RangeX.few {w : World} {b r : Nat} {l done : List (Value × Value)} (h : RangeX w b r l done) : done.length ≤ l.length :=
  nodup_le h.nodup h.mem
theorem RangeX.walk {w : World} {b r : Nat} {l done : List (Value × Value)} (h : RangeX w b r l done) : ∃ o : Obj, w.heap[r]? = some o ∧ o.isWalk = true := by
  obtain ⟨es, clock, since, seen, c0, h1, h2, h3, h4, _⟩ := h
  exact ⟨_, h4, rfl⟩
theorem RangeX.same {w w' : World} {b r : Nat} {l done : List (Value × Value)} (h : RangeX w b r l done) (hb : w'.heap[b]? = w.heap[b]?) (hr : w'.heap[r]? = w.heap[r]?) : RangeX w' b r l done := by
  obtain ⟨es, clock, since, seen, c0, h1, h2, h3, h4, h5⟩ := h
  exact ⟨es, clock, since, seen, c0, hb.trans h1, h2, h3, hr.trans h4, h5⟩
theorem RangeX.of_walks {w w' : World} {b r : Nat} {l done : List (Value × Value)} (h : RangeX w b r l done) (hk : KeepsWalks w w') : RangeX w' b r l done ∧ rangeLeft w' b r = rangeLeft w b r := by
  obtain ⟨es, clock, since, seen, c0, h1, h2, h3, h4, h5⟩ := h
  have e1 := hk.same b _ h1 rfl
  have e2 := hk.same r _ h4 rfl
  exact ⟨⟨es, clock, since, seen, c0, e1, h2, h3, e2, h5⟩, rangeLeft_same (e1.trans h1.symm) (e2.trans h4.symm)⟩

theorem run_rangeX_start {w : World} {b : Nat} {l : List (Value × Value)} {t k e : TypeId} (h : MapAt w b l) (ht : P.underlying t = some (.map k e)) :
    ∃ w', (Instr.range t (.map (some b))).run P w = .ok (.pointer (some ⟨w.heap.size, 0, none⟩)) w' ∧ RangeX w' b w.heap.size l [] ∧ w.grownBy w' none := by
  obtain ⟨es, clock, hb, hl, hs⟩ := h
  refine ⟨_, run_range_map w t k e b es clock ht hb, ⟨es, clock, clock, #[], clock, (((Below.refl w.heap.size w).alloc (Nat.le_refl _) _).block b (lt_of_heap hb)).trans hb, hl, hs, alloc1 w _, hs.1, Nat.le_refl _, Nat.le_refl _, fun x _ => by simp, (fun p hp => by cases hp), .nil⟩, grownOfBelow ((Below.refl _ _).alloc (Nat.le_refl _) _)⟩

theorem run_rangeX_next {w : World} {b r : Nat} {l done : List (Value × Value)} (h : RangeX w b r l done) (ty : TypeId) :
    ((∀ p ∈ l, p ∈ done) ∧ (Instr.next (.pointer (some ⟨r, 0, none⟩)) false ty).run P w = .ok (.tuple #[.bool false]) w) ∨
    ∃ k v w', (k, v) ∈ l ∧ (k, v) ∉ done ∧ (Instr.next (.pointer (some ⟨r, 0, none⟩)) false ty).run P w = .ok (.tuple #[.bool true, k, v]) w' ∧ RangeX w' b r l ((k, v) :: done) ∧ w.grownBy w' (some r) ∧ rangeLeft w' b r < rangeLeft w b r ∧
      (Instr.entry (.pointer (some ⟨r, 0, none⟩))).run P w' = .ok (.tuple #[k, v]) w' := by
  obtain ⟨es, clock, since, seen, c0, hb, rfl, hs, hr, hold, hsc, hsk, hseen, hdone, hnd⟩ := h
  have hne : r ≠ b := fun e => by rw [e, hb] at hr; cases hr
  rcases run_next_at (P := P) w ty r b since c0 seen es clock hr hb hold hsc with ⟨h0, hrun⟩ | ⟨e, he, w1, hal, hrun⟩
  · refine .inl ⟨fun p hp => ?_, hrun⟩
    obtain ⟨x, hx, rfl⟩ := List.mem_map.1 hp
    exact (hseen x hx).1 (all_seen es seen h0 x hx)
  · obtain ⟨hem, hes⟩ := mem_left he
    have hr1 : w1.heap[r]? = some (.mapIter (some b) since seen c0) := by rcases hal with rfl | rfl <;> exact hr
    have hb1 : w1.heap[b]? = some (.map es clock) := by rcases hal with rfl | rfl <;> exact hb
    have hset := heap_set (o' := .mapIter (some b) since (seen.push e.born) clock) hr1
    have hb' : (Go.ChangeMaps.setBlock w1 r (.mapIter (some b) since (seen.push e.born) clock)).heap[b]? = some (.map es clock) := (hset.2 b (fun e1 => hne e1.symm)).trans hb1
    have hnew : (e.key, e.val) ∉ done := fun hd => by
      have := (hseen e hem).2 hd
      rw [hes] at this
      cases this
    have hinj : ∀ x ∈ es.toList, x.key = e.key → x = e := fun x hx hk => by
      obtain ⟨i, hi⟩ := List.mem_iff_getElem?.1 hx
      obtain ⟨j, hj⟩ := List.mem_iff_getElem?.1 hem
      have e1 : (es.toList.map (·.key))[i]? = some e.key := by rw [List.getElem?_map, hi]; simp [hk]
      have e2 : (es.toList.map (·.key))[j]? = some e.key := by rw [List.getElem?_map, hj]; rfl
      have hij := (List.getElem?_inj (by have := (List.getElem?_eq_some_iff.1 e1).1; exact this) hs.2.2).1 (e1.trans e2.symm)
      subst hij
      rw [hi] at hj
      exact Option.some.inj hj
    refine .inr ⟨e.key, e.val, _, List.mem_map_of_mem (f := fun e : MapEntry => (e.key, e.val)) hem, hnew, hrun, ⟨es, clock, since, seen.push e.born, clock, hb', rfl, hs, hset.1, hold, hsk, hsk, fun x hx => ?_, fun p hp => ?_, List.nodup_cons.2 ⟨hnew, hnd⟩⟩, ?_, ?_, run_entry_at _ r b since seen es clock e hset.1 hb' hem hs.2.1⟩
    · rw [contains_push, Bool.or_eq_true_iff, hseen x hx, List.mem_cons]
      constructor
      · rintro (h | h)
        · exact .inr h
        · have hxe : x.born = e.born := by simpa using h
          obtain rfl := born_inj hs.2.1 hx hem hxe
          exact .inl rfl
      · rintro (h | h)
        · have := hinj x hx (Prod.mk.inj h).1
          subst this
          exact .inr (by simp)
        · exact .inl h
    · rcases List.mem_cons.1 hp with rfl | hp
      · exact List.mem_map_of_mem (f := fun e : MapEntry => (e.key, e.val)) hem
      · exact hdone p hp
    · rcases hal with rfl | rfl
      · exact ⟨rfl, rfl, rfl, by simp [Go.ChangeMaps.setBlock], fun i _ hi => hset.2 i (fun e1 => hi (by rw [e1]))⟩
      · exact ⟨rfl, rfl, rfl, by simp [Go.ChangeMaps.setBlock], fun i _ hi => hset.2 i (fun e1 => hi (by rw [e1]))⟩
    · unfold rangeLeft
      rw [hb', show (Go.ChangeMaps.setBlock w1 r (.mapIter (some b) since (seen.push e.born) clock)).heap[r]? = _ from hset.1, hb, hr]
      exact left_shrinks es seen e he
end
end Go.Proofs.Ytcliegpofhjpcaa
