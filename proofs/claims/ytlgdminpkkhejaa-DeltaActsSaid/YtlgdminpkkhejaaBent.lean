/-
  Maps whose entries are written in place (m[k]++): the entry of a key, its store; maps of counts.
  Conditions: the keys are of a kind that has a law (KeyLaw).
-/
import Derived.Test.YtlgdminpkkhejaaBmg
namespace Go.Proofs.Ytlgdminpkkhejaa
open Go.RowKit Go.MapKept

section
variable {P : Program}
/-- In the map of block b the entry of key k bears the stamp s. -/
def Entry (w : World) (b : Nat) (k s : Value) : Prop :=
  ∃ (es : Array MapEntry) (clock j : Nat) (e : MapEntry), w.heap[b]? = some (.map es clock) ∧ Stamped es clock ∧ es.toList[j]? = some e ∧ e.key = k ∧ s = .int .i64 (e.born : Int)
theorem Entry.same {w w' : World} {b : Nat} {k s : Value} (h : Entry w b k s) (hb : w'.heap[b]? = w.heap[b]?) : Entry w' b k s := by
  obtain ⟨es, clock, j, e, h1, h2⟩ := h
  exact ⟨es, clock, j, e, hb.trans h1, h2⟩
theorem run_entry_new {T kt et : TypeId} {K : World → Value → Prop} {w : World} {b : Nat} {l : List (Value × Value)} {k z : Value} (hT : P.underlying T = some (.map kt et)) (L : KeyLaw P kt K) (h : MapAt w b l) (hk : K w k) (hl : ∀ p ∈ l, K w p.1) (hz : (zeroValue et).run P w = .ok z w) (hm : ∀ p ∈ l, p.1 ≠ k) :
    ∃ w' s, (Instr.mapEntry T (.map (some b)) k).run P w = .ok (.tuple #[z, s]) w' ∧ MapAt w' b (l ++ [(k, z)]) ∧ Entry w' b k s ∧ Kp (fun y => y = b) w w' := by
  obtain ⟨es, clock, hb, rfl, hs⟩ := h
  have hf := L.find w k es.toList hk fun x hx => hl _ (List.mem_map_of_mem (f := fun e => (e.key, e.val)) hx)
  have h3 : seek k es.toList 0 = none := seek_none fun e he => hm _ (List.mem_map_of_mem (f := fun e => (e.key, e.val)) he)
  have hst := stamped_push hs (val := z) fun e he => hm _ (List.mem_map_of_mem (f := fun e => (e.key, e.val)) he)
  refine ⟨{ w with heap := w.heap.setIfInBounds b (.map (es.push { key := k, val := z, born := clock }) (clock + 1)) }, .int .i64 (clock : Int), ?_, ⟨_, _, (heap_set hb).1, by simp, hst⟩, ⟨_, _, es.size, { key := k, val := z, born := clock }, (heap_set hb).1, hst, by simp, rfl, rfl⟩, kp_set _⟩
  unfold Instr.mapEntry
  simp only [Sem.run_bind, run_underlying hT, Result.andThen_ok, MapKept.run_getObj_map hb, L.check w _ k hk, hf, h3, hz, MapKept.run_setObj_map _ hb, Sem.run_pure]
  rfl
theorem run_entry_old {T kt et : TypeId} {K : World → Value → Prop} {w : World} {b : Nat} {l : List (Value × Value)} {k v : Value} (hT : P.underlying T = some (.map kt et)) (L : KeyLaw P kt K) (h : MapAt w b l) (hk : K w k) (hl : ∀ p ∈ l, K w p.1) (hm : (k, v) ∈ l) :
    ∃ w' s, (Instr.mapEntry T (.map (some b)) k).run P w = .ok (.tuple #[v, s]) w' ∧ MapAt w' b l ∧ Entry w' b k s ∧ Kp (fun y => y = b) w w' := by
  obtain ⟨es, clock, hb, rfl, hs⟩ := h
  obtain ⟨e, he, hev⟩ := List.mem_map.1 hm
  obtain ⟨j, x, h1, h2, h3⟩ := seek_some (i := 0) ⟨e, he, (Prod.mk.inj hev).1⟩
  have hf := L.find w k es.toList hk fun x hx => hl _ (List.mem_map_of_mem (f := fun e => (e.key, e.val)) hx)
  have hxe : x.val = v := by
    obtain ⟨j', hj'⟩ := List.mem_iff_getElem?.1 he
    have hkk : x.key = e.key := h2.trans (Prod.mk.inj hev).1.symm
    have e1 : (es.toList.map (·.key))[j]? = some x.key := by rw [List.getElem?_map, h1]; rfl
    have e2 : (es.toList.map (·.key))[j']? = some x.key := by rw [List.getElem?_map, hj', hkk]; rfl
    have hjj : j = j' := (List.getElem?_inj (List.getElem?_eq_some_iff.1 e1).1 hs.2.2).1 (e1.trans e2.symm)
    subst hjj
    rw [h1] at hj'
    cases hj'
    exact (Prod.mk.inj hev).2
  have hej : es[j]? = some x := by rw [← h1]; simp
  have hkey : (((es[0 + j]?).map (·.key)).getD k) = k := by
    rw [Nat.zero_add, hej]
    exact h2
  have hmod : es.modify (0 + j) (fun e => { e with key := k }) = es := by
    rw [Nat.zero_add]
    apply Array.ext_getElem?
    intro i
    rw [Array.getElem?_modify]
    by_cases hij : j = i
    · subst hij
      rw [if_pos rfl, hej, ← h2]
      rfl
    · rw [if_neg hij]
  refine ⟨{ w with heap := w.heap.setIfInBounds b (.map es clock) }, .int .i64 (x.born : Int), ?_, ⟨_, _, (heap_set hb).1, rfl, hs⟩, ⟨_, _, j, x, (heap_set hb).1, hs, h1, h2, rfl⟩, kp_set _⟩
  unfold Instr.mapEntry Instr.keyThatStays
  simp only [Sem.run_bind, run_underlying hT, Result.andThen_ok, MapKept.run_getObj_map hb, L.check w _ k hk, hf, h3, hkey, L.same w k hk, if_true, Sem.run_pure, hmod, MapKept.run_setObj_map _ hb]
  rw [Nat.zero_add, hej, hxe]
  rfl
theorem run_entry_store {T : TypeId} {w : World} {b : Nat} {l1 l2 : List (Value × Value)} {k v0 s : Value} (v : Value) (h : MapAt w b (l1 ++ (k, v0) :: l2)) (he : Entry w b k s) :
    ∃ w', (Instr.entryStore T (.map (some b)) s v).run P w = .ok () w' ∧ MapAt w' b (l1 ++ (k, v) :: l2) ∧ Kp (fun y => y = b) w w' := by
  obtain ⟨es, clock, hb, hes, hs⟩ := h
  obtain ⟨es', clock', j, e, hb', hs', hj, hk, rfl⟩ := he
  rw [hb] at hb'
  injection hb' with hb'
  injection hb' with e1 e2
  subst e1 e2
  have hjl : j = l1.length := by
    have a1 : (es.toList.map (·.key))[j]? = some k := by rw [List.getElem?_map, hj, ← hk]; rfl
    have a2 : (es.toList.map (·.key))[l1.length]? = some k := by
      have : ((es.toList.map fun e => (e.key, e.val)).map (·.1))[l1.length]? = some k := by rw [hes, List.map_append, List.getElem?_append_right (by simp)]; simp
      rw [List.map_map] at this
      exact this
    exact (List.getElem?_inj (List.getElem?_eq_some_iff.1 a1).1 hs.2.2).1 (a1.trans a2.symm)
  have hej : es[j]? = some e := by rw [← hj]; simp
  have hfi : es.findIdx? (fun x => ((x.born : Int) == (e.born : Int))) = some j := by
    rw [Array.findIdx?_eq_some_iff_getElem]
    obtain ⟨hlt, hge⟩ := Array.getElem?_eq_some_iff.1 hej
    refine ⟨hlt, by rw [hge]; simp, fun i hi => ?_⟩
    have hil : i < es.size := by omega
    have hne : ¬ (es[i].born : Int) = (e.born : Int) := fun h => by
      have h1 : (es.toList.map (·.born))[i]? = some e.born := by rw [List.getElem?_map, Array.getElem?_toList, Array.getElem?_eq_getElem hil]; exact congrArg some (Int.ofNat.inj h)
      have h2 : (es.toList.map (·.born))[j]? = some e.born := by rw [List.getElem?_map, hj]; rfl
      have := (List.getElem?_inj (List.getElem?_eq_some_iff.1 h1).1 hs.2.1).1 (h1.trans h2.symm)
      omega
    simpa using hne
  refine ⟨{ w with heap := w.heap.setIfInBounds b (.map (es.modify j fun e => { e with val := v }) clock) }, ?_, ⟨_, _, (heap_set hb).1, ?_, stamped_modify hs _ _ (fun _ _ => rfl) (fun _ _ _ => rfl)⟩, kp_set _⟩
  · unfold Instr.entryStore
    simp [MapKept.run_getObj_map hb, asInt, asIntOf, hfi, MapKept.run_setObj_map _ hb, Result.andThen]
  · have e1 : ((es.modify j fun e => { e with val := v }).toList.map fun e => (e.key, e.val)) = (es.toList.map fun e => (e.key, e.val)).set j (k, v) := by
      apply List.ext_getElem?
      intro i
      rw [List.getElem?_set]
      simp only [List.getElem?_map, Array.getElem?_toList, Array.getElem?_modify, List.length_map, Array.length_toList]
      by_cases hij : j = i
      · subst hij
        obtain ⟨hlt, hge⟩ := Array.getElem?_eq_some_iff.1 hej
        simp [hlt, hge, hk]
      · simp [hij]
    rw [e1, hes, hjl, List.set_append_right _ _ (Nat.le_refl _)]
    simp

variable {κ : Type} [DecidableEq κ] {kE : κ → Value} {K : World → Value → Prop} {T kt et : TypeId}
def natV (n : Nat) : Value := .int .i64 (n : Int)
/-- A map of counts: a key that is not there has none. -/
def MapN (kE : κ → Value) (w : World) (b : Nat) (N : κ → Nat) : Prop := ∃ G, MapG kE natV w b G ∧ ∀ k, (G k).getD 0 = N k
theorem MapN.new (w : World) : MapN kE (w.alloc (.map #[] 0)) w.heap.size fun _ => 0 := ⟨_, MapG.new w, fun _ => rfl⟩
theorem MapN.lt {w : World} {b : Nat} {N : κ → Nat} (h : MapN kE w b N) : b < w.heap.size := by
  obtain ⟨G, h, _⟩ := h
  exact h.lt
theorem MapN.same {w w' : World} {b : Nat} {N : κ → Nat} (h : MapN kE w b N) (hb : w'.heap[b]? = w.heap[b]?) : MapN kE w' b N := by
  obtain ⟨G, h, h2⟩ := h
  exact ⟨G, h.same hb, h2⟩
theorem MapN.kp {M : Nat → Prop} {w w' : World} {b : Nat} {N : κ → Nat} (h : MapN kE w b N) (hk : Kp M w w') (hm : ¬ M b) : MapN kE w' b N := h.same (hk.block _ h.lt hm)
theorem MapN.ext {w : World} {b : Nat} {N N' : κ → Nat} (h : MapN kE w b N) (he : ∀ k, N k = N' k) : MapN kE w b N' := by
  obtain ⟨G, h, h2⟩ := h
  exact ⟨G, h, fun k => (h2 k).trans (he k)⟩
theorem MapN.look {w : World} {b : Nat} {N : κ → Nat} (h : MapN kE w b N) (hi : ∀ a b, kE a = kE b → a = b) (hT : P.underlying T = some (.map kt et)) (L : KeyLaw P kt K) (hK : ∀ w k, K w (kE k)) (hz : ∀ w, (zeroValue et).run P w = .ok (.int .i64 0) w) (k : κ) :
    (Instr.lookup T (.map (some b)) (kE k) false).run P w = .ok (.int .i64 (N k : Int)) w := by
  obtain ⟨G, h, h2⟩ := h
  rw [← h2 k]
  cases hg : G k with
  | none => exact h.no hi hT L (hK w) (hz w) hg
  | some v => exact h.yes hT L (hK w) hg
theorem MapN.entry {w : World} {b : Nat} {N : κ → Nat} (h : MapN kE w b N) (hi : ∀ a b, kE a = kE b → a = b) (hT : P.underlying T = some (.map kt et)) (L : KeyLaw P kt K) (hK : ∀ w k, K w (kE k)) (hz : ∀ w, (zeroValue et).run P w = .ok (.int .i64 0) w) (k : κ) :
    ∃ w' v s, (Instr.mapEntry T (.map (some b)) (kE k)).run P w = .ok (.tuple #[v, s]) w' ∧ MapN kE w' b N ∧ Entry w' b (kE k) s ∧ Kp (fun y => y = b) w w' := by
  obtain ⟨G, ⟨l, h1, h2⟩, h3⟩ := h
  have hkeys : ∀ p ∈ l.map fun p => (kE p.1, natV p.2), K w p.1 := fun p hp => by obtain ⟨z, _, rfl⟩ := List.mem_map.1 hp; exact hK _ _
  cases hg : glook l k with
  | none =>
    obtain ⟨w', s, hr, hm, he, hk⟩ := run_entry_new hT L h1 (hK w k) hkeys (hz w) (fun p hp e => by
      obtain ⟨q, hq, rfl⟩ := List.mem_map.1 hp
      exact glook_none hg q hq (hi _ _ e))
    refine ⟨w', _, s, hr, ⟨fun k' => if k' = k then some 0 else G k', ⟨l ++ [(k, 0)], by rw [List.map_append]; exact hm, fun k' => by rw [glook_snoc l k 0 hg k', h2 k']⟩, fun k' => ?_⟩, he, hk⟩
    show (if k' = k then some 0 else G k').getD 0 = N k'
    by_cases e : k' = k
    · subst e
      rw [if_pos rfl, ← h3 k', ← h2 k', hg]
      rfl
    · rw [if_neg e, h3]
  | some v =>
    obtain ⟨w', s, hr, hm, he, hk⟩ := run_entry_old hT L h1 (hK w k) hkeys (List.mem_map.2 ⟨(k, v), glook_some hg, rfl⟩)
    exact ⟨w', _, s, hr, ⟨G, ⟨l, hm, h2⟩, h3⟩, he, hk⟩
theorem MapN.store {w : World} {b : Nat} {N : κ → Nat} {s : Value} {k : κ} (h : MapN kE w b N) (he : Entry w b (kE k) s) (hi : ∀ a b, kE a = kE b → a = b) (x : Nat) :
    ∃ w', (Instr.entryStore T (.map (some b)) s (.int .i64 (x : Int))).run P w = .ok () w' ∧ MapN kE w' b (fun k' => if k' = k then x else N k') ∧ Kp (fun y => y = b) w w' := by
  obtain ⟨G, ⟨l, h1, h2⟩, h3⟩ := h
  have hmem : ∃ v, (k, v) ∈ l := by
    obtain ⟨es, clock, j, e, hb, _, hj, hk, _⟩ := he
    obtain ⟨es', clock', hb', hes, _⟩ := h1
    rw [hb] at hb'
    injection hb' with hb'
    injection hb' with e1 e2
    subst e1 e2
    have : (e.key, e.val) ∈ es.toList.map (fun e => (e.key, e.val)) := List.mem_map.2 ⟨e, List.mem_of_getElem? hj, rfl⟩
    rw [hes] at this
    obtain ⟨q, hq, e1⟩ := List.mem_map.1 this
    have := hi _ _ ((Prod.mk.inj e1).1.trans hk)
    exact ⟨q.2, by rw [← this]; exact hq⟩
  obtain ⟨v0, hv0⟩ := hmem
  obtain ⟨l1, l2, rfl⟩ := List.append_of_mem hv0
  have hn := nodup_of_map h1
  rw [List.map_append, List.map_cons] at h1
  obtain ⟨w', hr, hm, hk⟩ := run_entry_store (T := T) (.int .i64 (x : Int)) h1 he
  refine ⟨w', hr, ⟨fun k' => if k' = k then some x else G k', ⟨l1 ++ (k, x) :: l2, by rw [List.map_append, List.map_cons]; exact hm, fun k' => by rw [glook_mid x hn k', h2 k']⟩, fun k' => ?_⟩, hk⟩
  show (if k' = k then some x else G k').getD 0 = if k' = k then x else N k'
  by_cases e : k' = k
  · subst e
    rw [if_pos rfl, if_pos rfl]
    rfl
  · rw [if_neg e, if_neg e, h3]
end
end Go.Proofs.Ytlgdminpkkhejaa
