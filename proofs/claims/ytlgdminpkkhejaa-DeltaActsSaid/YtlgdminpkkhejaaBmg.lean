/-
  Maps in memory as functions: what a key has; look-up, store, delete, and loops over them.
  Conditions: the keys are of a kind that has a law (KeyLaw).
-/
import Derived.Test.YtlgdminpkkhejaaBrng
namespace Go.Proofs.Ytlgdminpkkhejaa
open Go.RowKit Go.MapKept

section
variable {P : Program}
theorem run_put_over {T kt et : TypeId} {K : World → Value → Prop} {w : World} {b : Nat} {l1 l2 : List (Value × Value)} {k v0 : Value} (v : Value) (hT : P.underlying T = some (.map kt et)) (L : KeyLaw P kt K) (h : MapAt w b (l1 ++ (k, v0) :: l2)) (hk : K w k) (hl : ∀ p ∈ l1 ++ (k, v0) :: l2, K w p.1) :
    ∃ w', (Instr.mapUpdate T (.map (some b)) k v).run P w = .ok () w' ∧ MapAt w' b (l1 ++ (k, v) :: l2) ∧ Kp (fun y => y = b) w w' := by
  obtain ⟨es, clock, hb, hes, hs⟩ := h
  obtain ⟨e, he, hev⟩ : ∃ e, es.toList[l1.length]? = some e ∧ (e.key, e.val) = (k, v0) := by
    have : (es.toList.map fun e => (e.key, e.val))[l1.length]? = some (k, v0) := by rw [hes, List.getElem?_append_right (Nat.le_refl _)]; simp
    rw [List.getElem?_map] at this
    exact Option.map_eq_some_iff.1 this
  obtain ⟨j, x, h1, h2, h3⟩ := seek_some (i := 0) ⟨e, List.mem_of_getElem? he, (Prod.mk.inj hev).1⟩
  have hf := L.find w k es.toList hk fun x hx => hl (x.key, x.val) (by rw [← hes]; exact List.mem_map_of_mem (f := fun e : MapEntry => (e.key, e.val)) hx)
  have hjj : j = l1.length := by
    have hkk : x.key = e.key := h2.trans (Prod.mk.inj hev).1.symm
    have e1 : (es.toList.map (·.key))[j]? = some x.key := by rw [List.getElem?_map, h1]; rfl
    have e2 : (es.toList.map (·.key))[l1.length]? = some x.key := by rw [List.getElem?_map, he, hkk]; rfl
    exact (List.getElem?_inj (List.getElem?_eq_some_iff.1 e1).1 hs.2.2).1 (e1.trans e2.symm)
  have hej : es[j]? = some x := by rw [← h1]; simp
  have hkey : (((es[0 + j]?).map (·.key)).getD k) = k := by
    rw [Nat.zero_add, hej]
    exact h2
  refine ⟨{ w with heap := w.heap.setIfInBounds b (.map (es.modify (0 + j) fun e => { e with key := k, val := v }) clock) }, ?_, ⟨_, _, (heap_set hb).1, ?_, ?_⟩, kp_set _⟩
  · unfold Instr.mapUpdate Instr.keyThatStays
    simp only [Sem.run_bind, run_underlying hT, Result.andThen_ok, MapKept.run_getObj_map hb, L.check w _ k hk, hf, h3, hkey, L.same w k hk, if_true, Sem.run_pure, MapKept.run_setObj_map _ hb]
  · rw [Nat.zero_add]
    have e1 : ((es.modify j fun e => { e with key := k, val := v }).toList.map fun e => (e.key, e.val)) = (es.toList.map fun e => (e.key, e.val)).set j (k, v) := by
      apply List.ext_getElem?
      intro i
      rw [List.getElem?_set]
      simp only [List.getElem?_map, Array.getElem?_toList, Array.getElem?_modify, List.length_map, Array.length_toList]
      by_cases hij : j = i
      · subst hij
        have := (Array.getElem?_eq_some_iff.1 hej).1
        simp [this]
      · simp [hij]
    rw [e1, hes, hjj, List.set_append_right _ _ (Nat.le_refl _)]
    simp
  · exact stamped_modify hs _ _ (fun _ _ => rfl) (fun e _ he => by
      rw [Nat.zero_add, hej] at he
      cases he
      exact h2.symm)

theorem nodup_of_map {κ β : Type} {kE : κ → Value} {vE : β → Value} {L : List (κ × β)} {w : World} {b : Nat} (h : MapAt w b (L.map fun p => (kE p.1, vE p.2))) : (L.map (·.1)).Nodup := by
  have := h.nodup
  rw [List.map_map] at this
  have h2 : ((L.map (·.1)).map kE).Nodup := by rw [List.map_map]; exact this
  exact List.Pairwise.of_map kE (fun a b hab e => hab (by rw [e])) h2

section
variable {κ β : Type} [DecidableEq κ]
def glook (L : List (κ × β)) (k : κ) : Option β := (L.find? fun p => decide (p.1 = k)).map (·.2)
theorem glook_some {L : List (κ × β)} {k : κ} {v : β} (h : glook L k = some v) : (k, v) ∈ L := by
  unfold glook at h
  obtain ⟨p, hp, rfl⟩ := Option.map_eq_some_iff.1 h
  have h1 := List.find?_some hp
  have h2 := List.mem_of_find?_eq_some hp
  simp at h1
  rw [← h1]
  exact h2
theorem glook_none {L : List (κ × β)} {k : κ} (h : glook L k = none) : ∀ p ∈ L, p.1 ≠ k := by
  unfold glook at h
  rw [Option.map_eq_none_iff, List.find?_eq_none] at h
  intro p hp
  simpa using h p hp
theorem glook_mem : ∀ {L : List (κ × β)} {k : κ} {v : β}, (L.map (·.1)).Nodup → (k, v) ∈ L → glook L k = some v
  | [], k, v, _, h => by cases h
  | p :: r, k, v, hn, h => by
    have hn' := List.nodup_cons.1 hn
    unfold glook
    by_cases e : p.1 = k
    · rw [List.find?_cons_of_pos (by simpa using e)]
      rcases List.mem_cons.1 h with rfl | h
      · rfl
      · exact absurd (List.mem_map.2 ⟨_, h, e.symm⟩) hn'.1
    · rw [List.find?_cons_of_neg (by simpa using e)]
      rcases List.mem_cons.1 h with rfl | h
      · exact absurd rfl e
      · exact glook_mem hn'.2 h
theorem glook_snoc (L : List (κ × β)) (k : κ) (v : β) (h : glook L k = none) (k' : κ) : glook (L ++ [(k, v)]) k' = if k' = k then some v else glook L k' := by
  unfold glook at h ⊢
  rw [List.find?_append]
  by_cases e : k' = k
  · subst e
    rw [if_pos rfl, Option.map_eq_none_iff.1 h]
    simp
  · rw [if_neg e]
    have : List.find? (fun p => decide (p.1 = k')) [(k, v)] = none := by simp [Ne.symm e]
    rw [this]
    cases List.find? (fun p => decide (p.1 = k')) L <;> rfl
theorem glook_mid {L1 L2 : List (κ × β)} {k : κ} {v0 : β} (v : β) (hn : ((L1 ++ (k, v0) :: L2).map (·.1)).Nodup) (k' : κ) : glook (L1 ++ (k, v) :: L2) k' = if k' = k then some v else glook (L1 ++ (k, v0) :: L2) k' := by
  by_cases e : k' = k
  · subst e
    rw [if_pos rfl]
    exact glook_mem (by simpa using hn) (by simp)
  · rw [if_neg e]
    unfold glook
    rw [List.find?_append, List.find?_append, List.find?_cons_of_neg (by simpa using Ne.symm e), List.find?_cons_of_neg (by simpa using Ne.symm e)]
theorem glook_del (L : List (κ × β)) (k k' : κ) : glook (L.filter fun p => decide (p.1 ≠ k)) k' = if k' = k then none else glook L k' := by
  unfold glook
  by_cases e : k' = k
  · subst e
    rw [if_pos rfl, Option.map_eq_none_iff, List.find?_eq_none]
    intro p hp
    simpa using (List.mem_filter.1 hp).2
  · rw [if_neg e, List.find?_filter]
    congr 2
    funext p
    by_cases h : p.1 = k'
    · have : p.1 ≠ k := fun h' => e (h.symm.trans h')
      simp [h, e]
    · simp [h]

/-- Block b is a map: a key k has G k. -/
def MapG (kE : κ → Value) (vE : β → Value) (w : World) (b : Nat) (G : κ → Option β) : Prop :=
  ∃ L : List (κ × β), MapAt w b (L.map fun p => (kE p.1, vE p.2)) ∧ ∀ k, glook L k = G k
variable {kE : κ → Value} {vE : β → Value}
theorem MapG.lt {w : World} {b : Nat} {G : κ → Option β} (h : MapG kE vE w b G) : b < w.heap.size := by
  obtain ⟨L, h, _⟩ := h
  exact h.lt
theorem MapG.same {w w' : World} {b : Nat} {G : κ → Option β} (h : MapG kE vE w b G) (hb : w'.heap[b]? = w.heap[b]?) : MapG kE vE w' b G := by
  obtain ⟨L, h, h2⟩ := h
  exact ⟨L, h.same hb, h2⟩
theorem MapG.kp {M : Nat → Prop} {w w' : World} {b : Nat} {G : κ → Option β} (h : MapG kE vE w b G) (hk : Kp M w w') (hm : ¬ M b) : MapG kE vE w' b G := h.same (hk.block _ h.lt hm)
theorem MapG.new (w : World) : MapG kE vE (w.alloc (.map #[] 0)) w.heap.size fun _ => none := ⟨[], MapAt.new w, fun _ => rfl⟩
theorem MapG.of_new {w : World} {b : Nat} (h : MapAt w b []) : MapG kE vE w b fun _ => none := ⟨[], h, fun _ => rfl⟩
theorem MapG.ext {w : World} {b : Nat} {G G' : κ → Option β} (h : MapG kE vE w b G) (he : ∀ k, G k = G' k) : MapG kE vE w b G' := by
  obtain ⟨L, h, h2⟩ := h
  exact ⟨L, h, fun k => (h2 k).trans (he k)⟩

variable {K : World → Value → Prop} {T kt et : TypeId}
theorem MapG.yes {w : World} {b : Nat} {G : κ → Option β} {k : κ} {v : β} (h : MapG kE vE w b G) (hT : P.underlying T = some (.map kt et)) (L : KeyLaw P kt K) (hK : ∀ k, K w (kE k)) (hv : G k = some v) :
    (Instr.lookup T (.map (some b)) (kE k) false).run P w = .ok (vE v) w := by
  obtain ⟨l, h1, h2⟩ := h
  exact run_look_yes hT L h1 (hK k) (fun p hp => by obtain ⟨z, _, rfl⟩ := List.mem_map.1 hp; exact hK _) (List.mem_map.2 ⟨(k, v), glook_some ((h2 k).trans hv), rfl⟩)
theorem MapG.yes2 {w : World} {b : Nat} {G : κ → Option β} {k : κ} {v : β} (h : MapG kE vE w b G) (hT : P.underlying T = some (.map kt et)) (L : KeyLaw P kt K) (hK : ∀ k, K w (kE k)) (hv : G k = some v) :
    (Instr.lookup T (.map (some b)) (kE k) true).run P w = .ok (.tuple #[vE v, .bool true]) w := by
  obtain ⟨l, h1, h2⟩ := h
  exact run_look2_yes hT L h1 (hK k) (fun p hp => by obtain ⟨z, _, rfl⟩ := List.mem_map.1 hp; exact hK _) (List.mem_map.2 ⟨(k, v), glook_some ((h2 k).trans hv), rfl⟩)
theorem MapG.no {w : World} {b : Nat} {G : κ → Option β} {k : κ} {z : Value} (h : MapG kE vE w b G) (hi : ∀ a b, kE a = kE b → a = b) (hT : P.underlying T = some (.map kt et)) (L : KeyLaw P kt K) (hK : ∀ k, K w (kE k)) (hz : (zeroValue et).run P w = .ok z w) (hv : G k = none) :
    (Instr.lookup T (.map (some b)) (kE k) false).run P w = .ok z w := by
  obtain ⟨l, h1, h2⟩ := h
  exact run_look_no hT L h1 (hK k) (fun p hp => by obtain ⟨z, _, rfl⟩ := List.mem_map.1 hp; exact hK _) hz (fun p hp e => by
    obtain ⟨q, hq, rfl⟩ := List.mem_map.1 hp
    exact glook_none ((h2 k).trans hv) q hq (hi _ _ e))
theorem MapG.no2 {w : World} {b : Nat} {G : κ → Option β} {k : κ} {z : Value} (h : MapG kE vE w b G) (hi : ∀ a b, kE a = kE b → a = b) (hT : P.underlying T = some (.map kt et)) (L : KeyLaw P kt K) (hK : ∀ k, K w (kE k)) (hz : (zeroValue et).run P w = .ok z w) (hv : G k = none) :
    (Instr.lookup T (.map (some b)) (kE k) true).run P w = .ok (.tuple #[z, .bool false]) w := by
  obtain ⟨l, h1, h2⟩ := h
  exact run_look2_no hT L h1 (hK k) (fun p hp => by obtain ⟨z, _, rfl⟩ := List.mem_map.1 hp; exact hK _) hz (fun p hp e => by
    obtain ⟨q, hq, rfl⟩ := List.mem_map.1 hp
    exact glook_none ((h2 k).trans hv) q hq (hi _ _ e))
theorem MapG.put {w : World} {b : Nat} {G : κ → Option β} (h : MapG kE vE w b G) (hi : ∀ a b, kE a = kE b → a = b) (hT : P.underlying T = some (.map kt et)) (L : KeyLaw P kt K) (hK : ∀ k, K w (kE k)) (k : κ) (v : β) :
    ∃ w', (Instr.mapUpdate T (.map (some b)) (kE k) (vE v)).run P w = .ok () w' ∧ MapG kE vE w' b (fun k' => if k' = k then some v else G k') ∧ Kp (fun y => y = b) w w' := by
  obtain ⟨l, h1, h2⟩ := h
  have hkeys : ∀ p ∈ l.map fun p => (kE p.1, vE p.2), K w p.1 := fun p hp => by obtain ⟨z, _, rfl⟩ := List.mem_map.1 hp; exact hK _
  cases hg : glook l k with
  | none =>
    obtain ⟨w', hr, hm, hk⟩ := run_put_new (vE v) hT L h1 (hK k) hkeys (fun p hp e => by
      obtain ⟨q, hq, rfl⟩ := List.mem_map.1 hp
      exact glook_none hg q hq (hi _ _ e))
    refine ⟨w', hr, ⟨l ++ [(k, v)], by rw [List.map_append]; exact hm, fun k' => ?_⟩, hk⟩
    rw [glook_snoc l k v hg k', h2 k']
  | some v0 =>
    obtain ⟨l1, l2, rfl⟩ := List.append_of_mem (glook_some hg)
    have hn := nodup_of_map h1
    rw [List.map_append, List.map_cons] at h1 hkeys
    obtain ⟨w', hr, hm, hk⟩ := run_put_over (vE v) hT L h1 (hK k) hkeys
    refine ⟨w', hr, ⟨l1 ++ (k, v) :: l2, by rw [List.map_append, List.map_cons]; exact hm, fun k' => ?_⟩, hk⟩
    rw [glook_mid v hn k', h2 k']
theorem MapG.del {kt' ty : TypeId} {w : World} {b : Nat} {G : κ → Option β} (h : MapG kE vE w b G) (hi : ∀ a b, kE a = kE b → a = b) (hT : P.underlying T = some (.map kt et)) (L : KeyLaw P kt K) (hK : ∀ k, K w (kE k)) (k : κ) :
    ∃ w', (Builtin.delete_ #[T, kt'] ty #[.map (some b), kE k]).run P w = .ok (.tuple #[]) w' ∧ MapG kE vE w' b (fun k' => if k' = k then none else G k') ∧ Kp (fun y => y = b) w w' := by
  obtain ⟨l, h1, h2⟩ := h
  have hkeys : ∀ p ∈ l.map fun p => (kE p.1, vE p.2), K w p.1 := fun p hp => by obtain ⟨z, _, rfl⟩ := List.mem_map.1 hp; exact hK _
  obtain ⟨w', hr, hm, hk⟩ := run_del (kt' := kt') (ty := ty) hT L h1 (hK k) hkeys
  refine ⟨w', hr, ⟨l.filter fun p => decide (p.1 ≠ k), ?_, fun k' => ?_⟩, hk⟩
  · have e : ∀ l : List (κ × β), (l.map fun p => (kE p.1, vE p.2)).filter (fun p => open Classical in decide (p.1 ≠ kE k)) = (l.filter fun p => decide (p.1 ≠ k)).map fun p => (kE p.1, vE p.2) := by
      intro l
      induction l with
      | nil => rfl
      | cons p r ih =>
        by_cases hp : p.1 = k
        · rw [List.map_cons, List.filter_cons_of_neg (by simp [hp]), List.filter_cons_of_neg (by simp [hp]), ih]
        · rw [List.map_cons, List.filter_cons_of_pos (by simpa using fun e => hp (hi _ _ e)), List.filter_cons_of_pos (by simpa using hp), ih, List.map_cons]
    rw [← e l]
    exact hm
  · rw [glook_del l k k', h2 k']
end
end
end Go.Proofs.Ytlgdminpkkhejaa
