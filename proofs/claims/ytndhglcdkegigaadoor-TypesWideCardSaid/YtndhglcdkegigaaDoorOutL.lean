/-
  The list of a solution that is being filled: words for types.Solve.
  Conditions: those of each theorem.
-/
import Derived.Test.YtndhglcdkegigaaDoorChain
namespace Go.Proofs.YtndhglcdkegigaaDoor
open Go.RowKit

theorem flat2_setK : ∀ (k : Nat) (vs : List (Value × Value)) (u v : Value), k < vs.length → (((flat2 vs).set (k * 2) u).set (k * 2 + 1) v) = flat2 (vs.set k (u, v))
  | _, [], _, _, h => by simp at h
  | 0, a :: r, u, v, _ => rfl
  | k + 1, a :: r, u, v, h => by
    have := flat2_setK k r u v (by simpa using h)
    have e0 : (k + 1) * 2 = k * 2 + 2 := by omega
    have e1 : k * 2 + 2 + 1 = k * 2 + 1 + 2 := by omega
    rw [e0, e1]
    simp only [flat2, List.flatMap_cons, List.cons_append, List.nil_append, List.set_cons_succ] at this ⊢
    rw [this]
theorem flat2_zero (u v : Value) (L : Nat) : (madeCells #[u, v] (L * 2)).toList = flat2 (List.replicate L (u, v)) := by
  apply List.ext_getElem?
  intro j
  have hl : (flat2 (List.replicate L (u, v))).length = L * 2 := by rw [flat2_length, List.length_replicate]
  by_cases hj : j < L * 2
  · obtain ⟨a1, a2⟩ := flat2_at (List.replicate L (u, v)) (j / 2) (u, v) (by rw [List.getElem?_replicate, if_pos (by omega)])
    rcases Nat.mod_two_eq_zero_or_one j with h | h
    · have e : j = j / 2 * 2 := by omega
      rw [e, a1]
      simp [madeCells, h, ← e, hj]
    · have e : j = j / 2 * 2 + 1 := by omega
      rw [e, a2]
      simp [madeCells, ← e, hj, h]
  · rw [List.getElem?_eq_none (by simp [madeCells]; omega), List.getElem?_eq_none (by rw [hl]; omega)]

/-- The list at block g; r is the iterator. -/
structure OutL (base g r L : Nat) (G : Gv) (done : List (Value × Value)) (vs : List (Value × Value)) (w : World) : Prop where
  own : w.ownsRow base 30 2 (.slice (some ⟨g, 0, none⟩) L L) L (flat2 vs)
  len : vs.length = L
  each : ∀ (n : Nat) (p : Value × Value), vs[n]? = some p → (∃ e ∈ G, givenV e ∈ done ∧ e.1 = n ∧ TyIs w (fun y => base ≤ y ∧ y < w.heap.size ∧ y ≠ g ∧ y ≠ r) e.2.2 p.1 p.2) ∨ ((∀ e ∈ G, givenV e ∈ done → e.1 ≠ n) ∧ p = (.string ⟨#[]⟩, .slice none 0 0))
theorem OutL.start {base g r L : Nat} {G : Gv} {w : World} (h : w.ownsRow base 30 2 (.slice (some ⟨g, 0, none⟩) L L) L (flat2 (List.replicate L (.string ⟨#[]⟩, .slice none 0 0)))) : OutL base g r L G [] (List.replicate L (.string ⟨#[]⟩, .slice none 0 0)) w := by
  refine ⟨h, List.length_replicate, fun n p hp => .inr ⟨(fun e _ hd => by cases hd), ?_⟩⟩
  rw [List.getElem?_replicate] at hp
  split at hp
  · exact (Option.some.inj hp).symm
  · cases hp
/-- Nothing was put; the iterator went on. -/
theorem OutL.kp {base g r L : Nat} {G : Gv} {done : List (Value × Value)} {vs : List (Value × Value)} {w w' : World} (h : OutL base g r L G done vs w) (hk : Kp (fun y => y = r) w w') (hne : g ≠ r) : OutL base g r L G done vs w' := by
  refine ⟨hk.own h.own fun y hy e => hne ((Option.some.inj hy).trans e), h.len, fun n p hp => ?_⟩
  rcases h.each n p hp with ⟨e, he, hd, hn, ht⟩ | h
  · exact .inl ⟨e, he, hd, hn, (ht.keep (hk.kept fun b hb => ⟨hb.2.1, hb.2.2.2⟩)).more fun y hy => ⟨hy.1, Nat.lt_of_lt_of_le hy.2.1 hk.size, hy.2.2⟩⟩
  · exact .inr h
theorem OutL.below {base g r L : Nat} {G : Gv} {done : List (Value × Value)} {vs : List (Value × Value)} {w w' : World} (h : OutL base g r L G done vs w) (hb : Below w.heap.size w w') : OutL base g r L G done vs w' := by
  refine ⟨h.own.kept (grownOfBelow hb) (ownNone _), h.len, fun n p hp => ?_⟩
  rcases h.each n p hp with ⟨e, he, hd, hn, ht⟩ | h
  · exact .inl ⟨e, he, hd, hn, (ht.keep ((kept_below hb).sub fun b hb => hb.2.1)).more fun y hy => ⟨hy.1, Nat.lt_of_lt_of_le hy.2.1 hb.size, hy.2.2⟩⟩
  · exact .inr h
/-- One type more. -/
theorem OutL.put {base g r L : Nat} {G : Gv} {done : List (Value × Value)} {vs : List (Value × Value)} {w : World} {e : Nat × Addr × Ty} {u v : Value} (h : OutL base g r L G done vs w) (he : e ∈ G) (hl : e.1 < L) (ht : TyIs w (fun y => base ≤ y ∧ y < w.heap.size ∧ y ≠ g ∧ y ≠ r) e.2.2 u v) :
    OutL base g r L G (givenV e :: done) (vs.set e.1 (u, v)) ((w.setCell ⟨g, e.1 * 2, none⟩ u).setCell ⟨g, e.1 * 2 + 1, none⟩ v) := by
  have hk : Kp (fun y => y = g) w ((w.setCell ⟨g, e.1 * 2, none⟩ u).setCell ⟨g, e.1 * 2 + 1, none⟩ v) :=
    (Kp.setCell (M := fun y => y = g) (Kp.refl _ w) (fun _ => rfl) _).trans (Kp.setCell (M := fun y => y = g) (Kp.refl _ _) (fun _ => rfl) _) fun _ _ h => h
  have hmv : ∀ {t : Ty} {a b : Value}, TyIs w (fun y => base ≤ y ∧ y < w.heap.size ∧ y ≠ g ∧ y ≠ r) t a b → TyIs ((w.setCell ⟨g, e.1 * 2, none⟩ u).setCell ⟨g, e.1 * 2 + 1, none⟩ v) (fun y => base ≤ y ∧ y < ((w.setCell ⟨g, e.1 * 2, none⟩ u).setCell ⟨g, e.1 * 2 + 1, none⟩ v).heap.size ∧ y ≠ g ∧ y ≠ r) t a b := fun ht =>
    (ht.keep (hk.kept fun b hb => ⟨hb.2.1, hb.2.2.1⟩)).more fun y hy => ⟨hy.1, Nat.lt_of_lt_of_le hy.2.1 hk.size, hy.2.2⟩
  refine ⟨?_, by rw [List.length_set]; exact h.len, fun n p hp => ?_⟩
  · rw [← flat2_setK e.1 vs u v (by rw [h.len]; exact hl)]
    have ho := h.own
    generalize flat2 vs = xs at ho
    exact ((ho.stored (e.1 * 2) u).1.stored (e.1 * 2 + 1) v).1
  · rw [List.getElem?_set] at hp
    by_cases hn : e.1 = n
    · rw [if_pos hn, if_pos (by rw [h.len]; exact hl)] at hp
      obtain rfl := Option.some.inj hp
      exact .inl ⟨e, he, by simp, hn, hmv ht⟩
    · rw [if_neg hn] at hp
      rcases h.each n p hp with ⟨e2, he2, hd, hn2, ht2⟩ | ⟨h1, h2⟩
      · exact .inl ⟨e2, he2, List.mem_cons_of_mem _ hd, hn2, hmv ht2⟩
      · refine .inr ⟨fun e2 he2 hd => ?_, h2⟩
        rcases List.mem_cons.1 hd with hd | hd
        · intro hh
          have h1 := (Prod.mk.inj hd).1
          have h2 := Value.int.inj h1
          omega
        · exact h1 e2 he2 hd
theorem solOf_mem {G : Gv} {e : Nat × Addr × Ty} (hn : (G.map (·.1)).Nodup) (he : e ∈ G) : solOf G e.1 = some e.2.2 := by
  induction G with
  | nil => cases he
  | cons a r ih =>
    have hn' := List.nodup_cons.1 (by simpa using hn : ((a.1 :: r.map (·.1)) : List Nat).Nodup)
    unfold solOf
    rw [List.find?_cons]
    rcases List.mem_cons.1 he with rfl | he
    · simp
    · have hne : (a.1 == e.1) = false := by
        rw [beq_eq_false_iff_ne]
        intro hh
        exact hn'.1 (hh ▸ List.mem_map_of_mem (f := (·.1)) he)
      rw [hne]
      exact ih hn'.2 he
theorem solOf_out {G : Gv} {n : Nat} (h : ∀ e ∈ G, e.1 ≠ n) : solOf G n = none := by
  unfold solOf
  rw [Option.map_eq_none_iff, List.find?_eq_none]
  intro e he
  simpa using h e he
theorem OutL.done {base g r : Nat} {G : Gv} {done : List (Value × Value)} {vs : List (Value × Value)} {w : World} (h : OutL base g r (solLen G) G done vs w) (hn : (G.map (·.1)).Nodup) (hall : ∀ e ∈ G, givenV e ∈ done) : Tys w (Fr base w.heap.size) (some ⟨g, 0, none⟩) (solL G) vs := by
  refine ⟨by rw [h.len]; simp [solL], Row.ofOwn h.own fun y hy h1 h2 => ⟨h1, h2⟩, fun i t p ht hp => ?_⟩
  have ht' : t = solAt G i := by
    unfold solL at ht
    rw [List.getElem?_map] at ht
    obtain ⟨j, hj, rfl⟩ := Option.map_eq_some_iff.1 ht
    have := (List.getElem?_eq_some_iff.1 hj).2
    rw [List.getElem_range] at this
    rw [this]
  subst ht'
  unfold solAt
  rcases h.each i p hp with ⟨e, he, _, rfl, hty⟩ | ⟨h1, rfl⟩
  · rw [solOf_mem hn he]
    exact hty.more fun y hy => ⟨hy.1, hy.2.1⟩
  · rw [solOf_out fun e he => h1 e he (hall e he)]
    exact (Tys.nil w _ none).close (n := []) (by simp) (by simp) ⟨Nat.le_refl _, Nat.zero_le _⟩
end Go.Proofs.YtndhglcdkegigaaDoor
