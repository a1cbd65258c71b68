/-
  Made equations without error, ready to be solved: their names, all pointers that are in play.
  Conditions: those of each theorem.
-/
import Derived.Test.YtndhglcdkegigaaDoorEqs
import Derived.Test.YtndhglcdkegigaaDoorClean
import Derived.Test.YtndhglcdkegigaaDoorSolve
namespace Go.Proofs.YtndhglcdkegigaaDoor
open Go.RowKit

def cnames : List (List UInt8) := [[105, 110, 116], [98, 111, 111, 108], [97, 58, 58, 80], [36, 84], [36, 85], [63, 48], [63, 49], [63, 50], [63, 51], [97, 58, 58, 69], [97, 58, 58, 66, 111, 120], [117, 110, 105, 116]]
/-- A made type without error. -/
inductive CTy : Ty → Prop
  | mk (n : List UInt8) (ks : List Ty) (hn : n ∈ cnames) (hk : ks.length ≤ 2) (h : ∀ a ∈ ks, CTy a) : CTy (.mk n ks)
theorem CTy.out {n : List UInt8} {ks : List Ty} (h : CTy (.mk n ks)) : n ∈ cnames ∧ ks.length ≤ 2 ∧ ∀ a ∈ ks, CTy a := by
  cases h with
  | mk _ _ h1 h2 h3 => exact ⟨h1, h2, h3⟩
theorem cname_good {n : List UInt8} (h : n ∈ cnames) : GoodN n := by
  have key : ∀ n ∈ cnames, vnum n = none ∨ n = vname 0 ∨ n = vname 1 ∨ n = vname 2 ∨ n = vname 3 := by
    have e0 : vname 0 = [63, 48] := by simp [vname, Lib.decDigits_one]
    have e1 : vname 1 = [63, 49] := by simp [vname, Lib.decDigits_one]
    have e2 : vname 2 = [63, 50] := by simp [vname, Lib.decDigits_one]
    have e3 : vname 3 = [63, 51] := by simp [vname, Lib.decDigits_one]
    rw [e0, e1, e2, e3]
    decide
  rcases key n h with h | h | h | h | h
  · exact .inl h
  · exact .inr ⟨0, by omega, h⟩
  · exact .inr ⟨1, by omega, h⟩
  · exact .inr ⟨2, by omega, h⟩
  · exact .inr ⟨3, by omega, h⟩
theorem cty_down : DownN CTy := by
  refine ⟨⟨?_, ?_⟩, ?_⟩
  · rintro ⟨n, ks⟩ h
    exact cname_good h.out.1
  · rintro ⟨n, ks⟩ a h ha
    exact h.out.2.2 a ha
  · rintro ⟨n, ks⟩ h e
    have := h.out.1
    simp only [Ty.name] at e
    subst e
    revert this
    decide
theorem cty_clean : CleanQ CTy := by
  rintro ⟨n, ks⟩ h e
  have := h.out.1
  simp only [Ty.name] at e
  subst e
  revert this
  unfold brk
  decide
theorem clean_name {n : List UInt8} (h : n ∈ dnames) : clnN n ∈ cnames := by
  have key : ∀ n ∈ dnames, clnN n ∈ cnames := by decide
  exact key n h
theorem clean_cty {d : Nat} {t : Ty} (h : DTy d t) : CTy (cleanT t) ∧ (cleanT t).size = t.size := by
  induction h with
  | mk d n ks hn hk h0 h ih =>
    rw [cleanT, cleanL_map]
    refine ⟨.mk _ _ (clean_name hn) (by simpa using hk) fun a ha => ?_, ?_⟩
    · obtain ⟨b, hb, rfl⟩ := List.mem_map.1 ha
      exact (ih b hb).1
    · have : ∀ l : List Ty, (∀ a ∈ l, (cleanT a).size = a.size) → sizeL (l.map cleanT) = sizeL l := by
        intro l
        induction l with
        | nil => intro _; rfl
        | cons a r ihr =>
          intro h
          simp only [List.map_cons, sizeL]
          rw [h a (by simp), ihr fun b hb => h b (by simp [hb])]
      simp only [Ty.size]
      rw [this ks fun a ha => (ih a ha).2]

/-! ### All pointers -/

/-- A list of pointers to types, closed under arguments. -/
structure Ptrs (w : World) (S : Nat → Prop) (Q : Ty → Prop) (U : List Addr) : Prop where
  ty : ∀ q ∈ U, ∃ t, PtTy w S q t ∧ Q t
  arg : ∀ q ∈ U, ∀ (ad : Addr) (n c i : Nat), w.cell? ⟨q.block, q.off + 1, none⟩ = some (.slice (some ad) n c) → i < n → ad.add (i * 2) ∈ U
theorem Ptrs.nil (w : World) (S : Nat → Prop) (Q : Ty → Prop) : Ptrs w S Q [] := ⟨fun q hq => (by cases hq), fun q hq => (by cases hq)⟩
theorem Ptrs.join {w : World} {S : Nat → Prop} {Q : Ty → Prop} {U V : List Addr} (h : Ptrs w S Q U) (h' : Ptrs w S Q V) : Ptrs w S Q (U ++ V) := by
  refine ⟨fun q hq => ?_, fun q hq ad n c i he hi => ?_⟩
  · rcases List.mem_append.1 hq with hq | hq
    · exact h.ty q hq
    · exact h'.ty q hq
  · rcases List.mem_append.1 hq with hq | hq
    · exact List.mem_append.2 (.inl (h.arg q hq ad n c i he hi))
    · exact List.mem_append.2 (.inr (h'.arg q hq ad n c i he hi))
theorem ptrs_of {w : World} {S : Nat → Prop} {Q : Ty → Prop} (hQ : Down Q) (t : Ty) : ∀ p, PtTy w S p t → Q t → ∃ U, p ∈ U ∧ U.length ≤ t.size ∧ Ptrs w S Q U := by
  induction t using Ty.ind with | h n ks ih => ?_
  intro p hp hq
  obtain ⟨A, c, hS, e0, e1, _, _, _, harg⟩ := hp.cells
  simp only [Ty.args] at e1 harg
  have key : ∀ k, k ≤ ks.length → ∃ U, U.length ≤ sizeL (ks.take k) ∧ Ptrs w S Q U ∧ ∀ i, i < k → ∀ ad, A = some ad → ad.add (i * 2) ∈ U := by
    intro k
    induction k with
    | zero => exact fun _ => ⟨[], by simp [sizeL], Ptrs.nil _ _ _, fun i hi => by omega⟩
    | succ k ihk =>
      intro hk
      obtain ⟨U, h1, h2, h3⟩ := ihk (by omega)
      have hki : k < ks.length := by omega
      obtain ⟨ad, hA, hpa⟩ := harg k _ (List.getElem?_eq_getElem hki)
      obtain ⟨V, g1, g2, g3⟩ := ih ks[k] (List.getElem_mem hki) _ hpa (hQ.arg _ _ hq (List.getElem_mem hki))
      refine ⟨U ++ V, ?_, h2.join g3, fun i hi ad' hA' => ?_⟩
      · rw [List.take_succ_eq_append_getElem hki, sizeL_append, List.length_append]
        simp only [sizeL]
        omega
      · rw [List.mem_append]
        rcases Nat.lt_or_ge i k with hlt | hge
        · exact .inl (h3 i hlt ad' hA')
        · obtain rfl : i = k := by omega
          obtain rfl := Option.some.inj (hA.symm.trans hA')
          exact .inr g1
  obtain ⟨U, h1, h2, h3⟩ := key ks.length (Nat.le_refl _)
  rw [List.take_of_length_le (Nat.le_refl _)] at h1
  refine ⟨p :: U, by simp, ?_, ⟨fun q hq' => ?_, fun q hq' ad m c' i he hi => ?_⟩⟩
  · simp only [List.length_cons, Ty.size]
    omega
  · rcases List.mem_cons.1 hq' with rfl | hq'
    · exact ⟨_, hp, hq⟩
    · exact h2.ty q hq'
  · rcases List.mem_cons.1 hq' with rfl | hq'
    · rw [e1] at he
      obtain ⟨rfl, rfl, _⟩ := Value.slice.inj (Option.some.inj he)
      exact List.mem_cons_of_mem _ (h3 i hi ad rfl)
    · exact List.mem_cons_of_mem _ (h2.arg q hq' ad m c' i he hi)

def eqSize (E : List Eqn) : Nat := (E.map fun x => x.1.size + x.2.size).sum
theorem eqs_of {w : World} {S : Nat → Prop} {Q : Ty → Prop} (hQ : Down Q) (A : Option Addr) (E : List Eqn) (hE : ∀ (i : Nat) (x : Eqn), E[i]? = some x → Q x.1 ∧ Q x.2 ∧ ∃ ad, A = some ad ∧ PtTy w S (ad.add (i * 4)) x.1 ∧ PtTy w S ⟨(ad.add (i * 4)).block, (ad.add (i * 4)).off + 2, none⟩ x.2) :
    ∃ U, U.length ≤ eqSize E ∧ Univ w S Q U ∧ Eqs w S U A E := by
  have key : ∀ k, k ≤ E.length → ∃ U, U.length ≤ eqSize (E.take k) ∧ Ptrs w S Q U ∧ ∀ i, i < k → ∀ ad, A = some ad → ad.add (i * 4) ∈ U ∧ (⟨(ad.add (i * 4)).block, (ad.add (i * 4)).off + 2, none⟩ : Addr) ∈ U := by
    intro k
    induction k with
    | zero => exact fun _ => ⟨[], by simp, Ptrs.nil _ _ _, fun i hi => by omega⟩
    | succ k ihk =>
      intro hk
      obtain ⟨U, h1, h2, h3⟩ := ihk (by omega)
      have hki : k < E.length := by omega
      obtain ⟨q1, q2, ad, hA, hpa, hpb⟩ := hE k _ (List.getElem?_eq_getElem hki)
      obtain ⟨V, g1, g2, g3⟩ := ptrs_of hQ _ _ hpa q1
      obtain ⟨V', g1', g2', g3'⟩ := ptrs_of hQ _ _ hpb q2
      refine ⟨U ++ (V ++ V'), ?_, h2.join (g3.join g3'), fun i hi ad' hA' => ?_⟩
      · rw [List.take_succ_eq_append_getElem hki]
        simp only [eqSize, List.map_append, List.sum_append, List.map_cons, List.map_nil, List.sum_cons, List.sum_nil, List.length_append] at h1 ⊢
        omega
      · rw [List.mem_append, List.mem_append, List.mem_append, List.mem_append]
        rcases Nat.lt_or_ge i k with hlt | hge
        · exact ⟨.inl (h3 i hlt ad' hA').1, .inl (h3 i hlt ad' hA').2⟩
        · obtain rfl : i = k := by omega
          obtain rfl := Option.some.inj (hA.symm.trans hA')
          exact ⟨.inr (.inl g1), .inr (.inr g1')⟩
  obtain ⟨U, h1, h2, h3⟩ := key E.length (Nat.le_refl _)
  rw [List.take_of_length_le (Nat.le_refl _)] at h1
  refine ⟨U, h1, ⟨h2.ty, h2.arg⟩, ⟨fun i x hx => ?_⟩⟩
  obtain ⟨_, _, ad, hA, hpa, hpb⟩ := hE i x hx
  have hi := (List.getElem?_eq_some_iff.1 hx).1
  exact ⟨ad, hA, hpa, hpb, h3 i hi ad hA⟩

/-! ### A row that is cleaned in place -/

theorem flat4_set (vs : List EV) (i : Nat) (p : EV) (hi : i < vs.length) : ((((flat4 vs).set (i * 4) p.1.1).set (i * 4 + 1) p.1.2).set (i * 4 + 2) p.2.1).set (i * 4 + 3) p.2.2 = flat4 (vs.set i p) := by
  induction vs generalizing i with
  | nil => simp at hi
  | cons v r ih =>
    cases i with
    | zero => simp [flat4]
    | succ i =>
      have e : (i + 1) * 4 = i * 4 + 4 := by omega
      rw [e]
      have := ih i (by simpa using hi)
      simp only [flat4, List.flatMap_cons, List.set_cons_succ, List.cons_append, List.nil_append] at this ⊢
      rw [← this]
/-- One equation more is clean. -/
theorem EqAt.put {lo i c g : Nat} {E : List Eqn} {vs : List EV} {w : World} (h : EqAt lo i E (.slice (some ⟨g, 0, none⟩) E.length c) vs w) (hi : i < E.length) {x : Eqn} {p : EV} (hx : EqIs w (fun y => lo ≤ y ∧ y < w.heap.size ∧ y ≠ g ∧ PlainB w y) x p) :
    EqAt lo (i + 1) (E.set i x) (.slice (some ⟨g, 0, none⟩) E.length c) (vs.set i p) ((((w.setCell ⟨g, i * 4, none⟩ p.1.1).setCell ⟨g, i * 4 + 1, none⟩ p.1.2).setCell ⟨g, i * 4 + 2, none⟩ p.2.1).setCell ⟨g, i * 4 + 3, none⟩ p.2.2) := by
  have s1 := h.own.stored (i * 4) p.1.1
  have s2 := s1.1.stored (i * 4 + 1) p.1.2
  have s3 := s2.1.stored (i * 4 + 2) p.2.1
  have s4 := s3.1.stored (i * 4 + 3) p.2.2
  have hk : Kp (fun y => y = g) w ((((w.setCell ⟨g, i * 4, none⟩ p.1.1).setCell ⟨g, i * 4 + 1, none⟩ p.1.2).setCell ⟨g, i * 4 + 2, none⟩ p.2.1).setCell ⟨g, i * 4 + 3, none⟩ p.2.2) :=
    ((((Kp.refl (fun y => y = g) w).setCell (fun _ => rfl) _).setCell (fun _ => rfl) _).setCell (fun _ => rfl) _).setCell (fun _ => rfl) _
  have hsz : ((((w.setCell ⟨g, i * 4, none⟩ p.1.1).setCell ⟨g, i * 4 + 1, none⟩ p.1.2).setCell ⟨g, i * 4 + 2, none⟩ p.2.1).setCell ⟨g, i * 4 + 3, none⟩ p.2.2).heap.size = w.heap.size := by simp only [sizeSet]
  generalize ((((w.setCell ⟨g, i * 4, none⟩ p.1.1).setCell ⟨g, i * 4 + 1, none⟩ p.1.2).setCell ⟨g, i * 4 + 2, none⟩ p.2.1).setCell ⟨g, i * 4 + 3, none⟩ p.2.2) = w' at *
  refine ⟨?_, by simp [h.len], fun j y q hy hq => ?_⟩
  · have := s4.1
    rw [flat4_set vs i p (by rw [h.len]; exact hi)] at this
    simpa using this
  · by_cases hj : i = j
    · subst hj
      rw [List.getElem?_set_self hi] at hy
      rw [List.getElem?_set_self (by rw [h.len]; exact hi)] at hq
      obtain rfl := Option.some.inj hy
      obtain rfl := Option.some.inj hq
      refine (hx.keep (hk.kept fun b hb => ⟨hb.2.1, hb.2.2.1⟩)).more fun b hb => ⟨hb.1, by rw [hsz]; exact hb.2.1, fun e => hb.2.2.1 (Option.some.inj e), fun _ => hb.2.2.2.same (hk.block b hb.2.1 hb.2.2.1)⟩
    · rw [List.getElem?_set_ne hj] at hy hq
      refine ((h.each j y q hy hq).keep (hk.kept fun b hb => ⟨hb.2.1, fun e => hb.2.2.1 (by rw [e]; rfl)⟩)).more fun b hb => ⟨hb.1, by rw [hsz]; exact hb.2.1, hb.2.2.1, fun hlt => (hb.2.2.2 (by omega)).same (hk.block b hb.2.1 fun e => hb.2.2.1 (by rw [e]; rfl))⟩
end Go.Proofs.YtndhglcdkegigaaDoor
