/-
  Modules, the plain law: what all modules give: a sweep over them, again and again, until nothing changes.
  No condition beyond those of each theorem.
-/
import Derived.Test.YtcliegpofhjpcaaMdP
namespace Go.Proofs.Ytcliegpofhjpcaa
open Go.RowKit

/-- A module: its name, what it defines, what it re-exports. -/
structure Face where
  md : List UInt8
  own : List (List UInt8)
  pub : List (List UInt8)

theorem nodup_le2 {α : Type} : ∀ {d l : List α}, d.Nodup → (∀ p ∈ d, p ∈ l) → d.length ≤ l.length
  | [], _, _, _ => Nat.zero_le _
  | a :: d, l, h, hs => by
    obtain ⟨s, t, rfl⟩ := List.append_of_mem (hs a (by simp))
    have h2 := List.nodup_cons.1 h
    have := nodup_le2 (d := d) (l := s ++ t) h2.2 fun p hp => by
      have hm := hs p (List.mem_cons_of_mem _ hp)
      rw [List.mem_append, List.mem_cons] at hm
      rw [List.mem_append]
      rcases hm with hm | hm | hm
      · exact .inl hm
      · subst hm
        exact absurd hp h2.1
      · exact .inr hm
    simp only [List.length_append, List.length_cons] at this ⊢
    omega

def insK (b : Key) : List Key → List Key
  | [] => [b]
  | x :: r => if ltKey x b = true then x :: insK b r else if x = b then x :: r else b :: x :: r
theorem mem_insK (b : Key) : ∀ (l : List Key) (x : Key), x ∈ insK b l ↔ x = b ∨ x ∈ l
  | [], x => by simp [insK]
  | y :: r, x => by
    unfold insK
    split
    · rw [List.mem_cons, mem_insK b r x, List.mem_cons]
      constructor
      · rintro (h | h | h)
        · exact .inr (.inl h)
        · exact .inl h
        · exact .inr (.inr h)
      · rintro (h | h | h)
        · exact .inr (.inl h)
        · exact .inl h
        · exact .inr (.inr h)
    · split
      · rename_i h
        subst h
        rw [List.mem_cons]
        constructor
        · exact .inr
        · rintro (h | h)
          · exact .inl h
          · exact h
      · rw [List.mem_cons]
theorem insK_asc (b : Key) : ∀ {l : List Key}, AscK l → AscK (insK b l)
  | [], _ => List.pairwise_singleton _ _
  | y :: r, h => by
    obtain ⟨h1, h2⟩ := List.pairwise_cons.1 h
    unfold insK
    split
    · rename_i hl
      refine List.pairwise_cons.2 ⟨fun x hx => ?_, insK_asc b h2⟩
      rcases (mem_insK b r x).1 hx with rfl | hx
      · exact hl
      · exact h1 x hx
    · rename_i hl
      split
      · exact h
      · rename_i hne
        have hby : ltKey b y = true := by
          cases hb : ltKey b y with
          | true => rfl
          | false => exact absurd (ltKey_tot (by simpa using hl) hb) hne
        refine List.pairwise_cons.2 ⟨fun x hx => ?_, h⟩
        rcases List.mem_cons.1 hx with rfl | hx
        · exact hby
        · exact ltKey_trans hby (h1 x hx)
def sortU (l : List Key) : List Key := l.foldr insK []
theorem mem_sortU : ∀ (l : List Key) (x : Key), x ∈ sortU l ↔ x ∈ l
  | [], x => by simp [sortU]
  | b :: r, x => by
    have ih := mem_sortU r x
    unfold sortU at ih ⊢
    rw [List.foldr_cons, mem_insK, List.mem_cons, ih]
theorem sortU_asc : ∀ l : List Key, AscK (sortU l)
  | [] => List.Pairwise.nil
  | b :: r => insK_asc b (sortU_asc r)
/-- What a step gives, as a list. -/
def stepL (m : List UInt8) (names : List (List UInt8)) (others : List (List Key)) : List Key :=
  sortU ((ownS names).map (bdOf m) ++ others.flatten.filter fun b => decide (b.1 ∉ ownS names))
theorem mem_stepL (m : List UInt8) (names : List (List UInt8)) (others : List (List Key)) (k : Key) : k ∈ stepL m names others ↔ InStep m names others k := by
  unfold stepL InStep
  rw [mem_sortU, List.mem_append, List.mem_map, List.mem_filter, List.mem_flatten]
  constructor
  · rintro (⟨n, h1, h2⟩ | ⟨⟨l, h1, h2⟩, h3⟩)
    · exact .inl ⟨n, h1, h2.symm⟩
    · exact .inr ⟨l, h1, h2, by simpa using h3⟩
  · rintro (⟨n, h1, h2⟩ | ⟨l, h1, h2, h3⟩)
    · exact .inl ⟨n, h1, h2.symm⟩
    · exact .inr ⟨⟨l, h1, h2⟩, by simpa using h3⟩
theorem stepL_asc (m : List UInt8) (names : List (List UInt8)) (others : List (List Key)) : AscK (stepL m names others) := sortU_asc _
theorem step_is {m : List UInt8} {names : List (List UInt8)} {others : List (List Key)} {ss : List Key} (h1 : AscK ss) (h2 : ∀ k, k ∈ ss ↔ InStep m names others k) : ss = stepL m names others :=
  h1.unique (stepL_asc _ _ _) fun k => by rw [h2 k, mem_stepL]
theorem InStep.mono {m : List UInt8} {names : List (List UInt8)} {o o' : List (List Key)} {k : Key} (h : InStep m names o k) (ho : ∀ l ∈ o, k ∈ l → ∃ l' ∈ o', k ∈ l') : InStep m names o' k := by
  rcases h with h | ⟨l, h1, h2, h3⟩
  · exact .inl h
  · obtain ⟨l', h4, h5⟩ := ho l h1 h2
    exact .inr ⟨l', h4, h5, h3⟩

/-- The first module of a name. -/
def fstI (l : List Face) (m : List UInt8) : Option Nat := l.findIdx? fun f => decide (f.md = m)
def getL (outs : List (List Key)) (i : Nat) : List Key := (outs[i]?).getD []
/-- What the modules that are re-exported give so far. -/
def othersOf (l : List Face) (outs : List (List Key)) (pub : List (List UInt8)) : List (List Key) := pub.filterMap fun m => (fstI l m).map (getL outs)
def stp (l : List Face) (outs : List (List Key)) (i : Nat) : List (List Key) :=
  match l[i]? with
  | some f => outs.set i (stepL f.md f.own (othersOf l outs f.pub))
  | none => outs
def sweepTo (l : List Face) (outs : List (List Key)) (k : Nat) : List (List Key) := (List.range k).foldl (stp l) outs
def sweep (l : List Face) (outs : List (List Key)) : List (List Key) := sweepTo l outs l.length
theorem sweepTo_zero (l : List Face) (outs : List (List Key)) : sweepTo l outs 0 = outs := rfl
theorem sweepTo_succ (l : List Face) (outs : List (List Key)) (k : Nat) : sweepTo l outs (k + 1) = stp l (sweepTo l outs k) k := by
  unfold sweepTo
  rw [List.range_succ, List.foldl_append]
  rfl
theorem stp_len (l : List Face) (outs : List (List Key)) (i : Nat) : (stp l outs i).length = outs.length := by
  unfold stp
  split <;> simp
theorem sweepTo_len (l : List Face) (outs : List (List Key)) : ∀ k, (sweepTo l outs k).length = outs.length
  | 0 => rfl
  | k + 1 => by rw [sweepTo_succ, stp_len, sweepTo_len l outs k]
def startL (l : List Face) : List (List Key) := List.replicate l.length []
def iterS (l : List Face) : Nat → List (List Key)
  | 0 => startL l
  | t + 1 => sweep l (iterS l t)
theorem iterS_len (l : List Face) : ∀ t, (iterS l t).length = l.length
  | 0 => by simp [iterS, startL]
  | t + 1 => by rw [iterS, sweep, sweepTo_len, iterS_len l t]
/-- What all modules give. -/
def AllIs (l : List Face) (R : List (List Key)) : Prop := ∃ t, R = iterS l t ∧ sweep l R = R
theorem AllIs.later {l : List Face} {R : List (List Key)} {t : Nat} (h : R = iterS l t) (hf : sweep l R = R) : ∀ s, iterS l (t + s) = R
  | 0 => h.symm
  | s + 1 => by rw [← Nat.add_assoc, iterS, AllIs.later h hf s, hf]
theorem AllIs.unique {l : List Face} {R R' : List (List Key)} (h : AllIs l R) (h' : AllIs l R') : R = R' := by
  obtain ⟨t, h1, h2⟩ := h
  obtain ⟨t', h3, h4⟩ := h'
  rw [← AllIs.later h1 h2 t', ← AllIs.later h3 h4 t, Nat.add_comm]

/-- All binds that modules define. -/
def univ (l : List Face) : List Key := l.flatMap fun f => (ownS f.own).map (bdOf f.md)
def LeL (a b : List (List Key)) : Prop := ∀ i k, k ∈ getL a i → k ∈ getL b i
theorem LeL.refl (a : List (List Key)) : LeL a a := fun _ _ h => h
theorem LeL.trans {a b c : List (List Key)} (h : LeL a b) (h' : LeL b c) : LeL a c := fun i k hk => h' i k (h i k hk)
theorem getL_set {outs : List (List Key)} {i : Nat} {x : List Key} (hi : i < outs.length) (j : Nat) : getL (outs.set i x) j = if j = i then x else getL outs j := by
  unfold getL
  by_cases h : j = i
  · subst h
    simp [hi]
  · rw [if_neg h, List.getElem?_set_ne (Ne.symm h)]
theorem others_mono {l l' : List Face} {a b : List (List Key)} {pub : List (List UInt8)} (hf : ∀ m, fstI l m = fstI l' m) (h : LeL a b) (k : Key) : ∀ x ∈ othersOf l a pub, k ∈ x → ∃ y ∈ othersOf l' b pub, k ∈ y := by
  intro x hx hk
  unfold othersOf at hx ⊢
  obtain ⟨m, hm, he⟩ := List.mem_filterMap.1 hx
  obtain ⟨j, hj, rfl⟩ := Option.map_eq_some_iff.1 he
  exact ⟨getL b j, List.mem_filterMap.2 ⟨m, hm, by rw [← hf m, hj]; rfl⟩, h j k hk⟩

/-- What stands while sweeping. -/
structure Inv (l : List Face) (outs : List (List Key)) : Prop where
  len : outs.length = l.length
  asc : ∀ i, AscK (getL outs i)
  sub : ∀ i, ∀ k ∈ getL outs i, k ∈ univ l
  post : ∀ (i : Nat) (f : Face), l[i]? = some f → ∀ k ∈ getL outs i, InStep f.md f.own (othersOf l outs f.pub) k
theorem Inv.start (l : List Face) : Inv l (startL l) := by
  have hg : ∀ i, getL (startL l) i = [] := fun i => by
    unfold getL startL
    rw [List.getElem?_replicate]
    split <;> rfl
  refine ⟨by simp [startL], fun i => by rw [hg]; exact ascK_nil, fun i k hk => ?_, fun i f _ k hk => ?_⟩
  · rw [hg] at hk; cases hk
  · rw [hg] at hk; cases hk
theorem Inv.univ_step {l : List Face} {outs : List (List Key)} (h : Inv l outs) {i : Nat} {f : Face} (hf : l[i]? = some f) {k : Key} (hk : InStep f.md f.own (othersOf l outs f.pub) k) : k ∈ univ l := by
  rcases hk with ⟨n, h1, rfl⟩ | ⟨x, hx, hk, _⟩
  · exact List.mem_flatMap.2 ⟨f, List.mem_of_getElem? hf, List.mem_map_of_mem h1⟩
  · obtain ⟨m, _, he⟩ := List.mem_filterMap.1 hx
    obtain ⟨j, _, rfl⟩ := Option.map_eq_some_iff.1 he
    exact h.sub j k hk
theorem Inv.stp {l : List Face} {outs : List (List Key)} (h : Inv l outs) (i : Nat) : Inv l (stp l outs i) ∧ LeL outs (stp l outs i) := by
  unfold Go.Proofs.Ytcliegpofhjpcaa.stp
  cases hf : l[i]? with
  | none => exact ⟨h, LeL.refl _⟩
  | some f =>
    have hi : i < outs.length := by rw [h.len]; exact (List.getElem?_eq_some_iff.1 hf).1
    have hg := fun j => getL_set (x := stepL f.md f.own (othersOf l outs f.pub)) hi j
    have hle : LeL outs (outs.set i (stepL f.md f.own (othersOf l outs f.pub))) := fun j k hk => by
      rw [hg j]
      by_cases e : j = i
      · subst e
        rw [if_pos rfl, mem_stepL]
        exact h.post j f hf k hk
      · rw [if_neg e]
        exact hk
    refine ⟨⟨by rw [List.length_set]; exact h.len, fun j => ?_, fun j k hk => ?_, fun j g hgj k hk => ?_⟩, hle⟩
    · rw [hg j]
      split
      · exact stepL_asc _ _ _
      · exact h.asc j
    · rw [hg j] at hk
      split at hk
      · exact h.univ_step hf ((mem_stepL _ _ _ k).1 hk)
      · exact h.sub j k hk
    · rw [hg j] at hk
      split at hk
      · rename_i e
        subst e
        rw [hf] at hgj
        cases hgj
        exact ((mem_stepL _ _ _ k).1 hk).mono (others_mono (fun _ => rfl) hle k)
      · exact (h.post j g hgj k hk).mono (others_mono (fun _ => rfl) hle k)
theorem Inv.sweepTo {l : List Face} {outs : List (List Key)} (h : Inv l outs) : ∀ k, Inv l (sweepTo l outs k) ∧ LeL outs (sweepTo l outs k)
  | 0 => ⟨h, LeL.refl _⟩
  | k + 1 => by
    obtain ⟨h1, h2⟩ := Inv.sweepTo h k
    rw [sweepTo_succ]
    exact ⟨(h1.stp k).1, h2.trans (h1.stp k).2⟩
theorem Inv.iter (l : List Face) : ∀ t, Inv l (iterS l t)
  | 0 => Inv.start l
  | t + 1 => ((Inv.iter l t).sweepTo l.length).1

/-! ### How large it gets -/
def tot (outs : List (List Key)) : Nat := (outs.map (·.length)).sum
theorem asc_len_le {a b : List Key} (ha : AscK a) (h : ∀ k ∈ a, k ∈ b) : a.length ≤ b.length := nodup_le2 ha.nodup h
theorem ext_getL {a b : List (List Key)} (hl : a.length = b.length) (h : ∀ i, getL a i = getL b i) : a = b := by
  apply List.ext_getElem hl
  intro i h1 h2
  have := h i
  unfold getL at this
  rw [List.getElem?_eq_getElem h1, List.getElem?_eq_getElem h2] at this
  exact this
theorem tot_le : ∀ {a b : List (List Key)}, a.length = b.length → (∀ i, AscK (getL a i)) → LeL a b → tot a ≤ tot b
  | [], [], _, _, _ => Nat.le_refl _
  | [], _ :: _, h, _, _ => by simp at h
  | _ :: _, [], h, _, _ => by simp at h
  | x :: a, y :: b, h, ha, hl => by
    have h1 := asc_len_le (ha 0) (hl 0)
    have h2 := tot_le (a := a) (b := b) (by simpa using h) (fun i => ha (i + 1)) (fun i => hl (i + 1))
    have e1 : getL (x :: a) 0 = x := rfl
    have e2 : getL (y :: b) 0 = y := rfl
    rw [e1, e2] at h1
    simp only [tot, List.map_cons, List.sum_cons] at h2 ⊢
    omega
theorem tot_eq : ∀ {a b : List (List Key)}, a.length = b.length → (∀ i, AscK (getL a i)) → (∀ i, AscK (getL b i)) → LeL a b → tot b ≤ tot a → a = b
  | [], [], _, _, _, _, _ => rfl
  | [], _ :: _, h, _, _, _, _ => by simp at h
  | _ :: _, [], h, _, _, _, _ => by simp at h
  | x :: a, y :: b, h, ha, hb, hl, ht => by
    have h1 := asc_len_le (ha 0) (hl 0)
    have h2 := tot_le (a := a) (b := b) (by simpa using h) (fun i => ha (i + 1)) (fun i => hl (i + 1))
    have e1 : getL (x :: a) 0 = x := rfl
    have e2 : getL (y :: b) 0 = y := rfl
    rw [e1, e2] at h1
    simp only [tot, List.map_cons, List.sum_cons] at h2 ht
    have hxy : x = y := by
      have hx := ha 0
      have hy := hb 0
      rw [e1] at hx
      rw [e2] at hy
      refine hx.unique hy fun k => ⟨hl 0 k, fun hk => ?_⟩
      refine Classical.byContradiction fun hn => ?_
      have : x.length < y.length := by
        have h3 := nodup_le2 (d := k :: x) (l := y) (List.nodup_cons.2 ⟨hn, hx.nodup⟩) fun z hz => by
          rcases List.mem_cons.1 hz with rfl | hz
          · exact hk
          · exact hl 0 z hz
        simp only [List.length_cons] at h3
        omega
      omega
    have hab := tot_eq (a := a) (b := b) (by simpa using h) (fun i => ha (i + 1)) (fun i => hb (i + 1)) (fun i => hl (i + 1)) (by unfold tot; omega)
    rw [hxy, hab]
theorem tot_bound {N : Nat} : ∀ {a : List (List Key)}, (∀ i, (getL a i).length ≤ N) → tot a ≤ a.length * N
  | [], _ => by simp [tot]
  | x :: a, h => by
    have h1 : x.length ≤ N := h 0
    have h2 := tot_bound (a := a) fun i => h (i + 1)
    simp only [tot, List.map_cons, List.sum_cons, List.length_cons, Nat.add_mul] at h2 ⊢
    omega
theorem Inv.bound {l : List Face} {outs : List (List Key)} (h : Inv l outs) : tot outs ≤ l.length * (univ l).length := by
  rw [← h.len]
  exact tot_bound fun i => asc_len_le (h.asc i) (h.sub i)
/-- A sweep that changes something makes it larger. -/
theorem Inv.grows {l : List Face} {outs : List (List Key)} (h : Inv l outs) {k : Nat} : Go.Proofs.Ytcliegpofhjpcaa.sweepTo l outs k = outs ∨ tot outs < tot (Go.Proofs.Ytcliegpofhjpcaa.sweepTo l outs k) := by
  obtain ⟨h1, h2⟩ := h.sweepTo k
  rcases Nat.lt_or_ge (tot outs) (tot (Go.Proofs.Ytcliegpofhjpcaa.sweepTo l outs k)) with hlt | hge
  · exact .inr hlt
  · exact .inl (tot_eq (by rw [h1.len, h.len]) h.asc h1.asc h2 hge).symm

/-! ### The least solution -/
theorem AllIs.inv {l : List Face} {R : List (List Key)} (h : AllIs l R) : Inv l R := by
  obtain ⟨t, rfl, _⟩ := h
  exact Inv.iter l t
theorem AllIs.fix {l : List Face} {R : List (List Key)} (h : AllIs l R) {i : Nat} {f : Face} (hf : l[i]? = some f) : getL R i = stepL f.md f.own (othersOf l R f.pub) := by
  have hI := h.inv
  obtain ⟨_, _, hs⟩ := h
  have key : ∀ k, k ≤ l.length → sweepTo l R k = R := fun k hk => by
    have h1 := (hI.sweepTo k).1
    have hle : ∀ s, LeL (Go.Proofs.Ytcliegpofhjpcaa.sweepTo l R k) (Go.Proofs.Ytcliegpofhjpcaa.sweepTo l R (k + s)) := fun s => by
      induction s with
      | zero => exact LeL.refl _
      | succ s ih =>
        rw [← Nat.add_assoc, sweepTo_succ]
        exact ih.trans ((hI.sweepTo (k + s)).1.stp (k + s)).2
    have h2 := hle (l.length - k)
    rw [show k + (l.length - k) = l.length by omega] at h2
    have h3 : LeL (Go.Proofs.Ytcliegpofhjpcaa.sweepTo l R k) R := by
      have := h2
      rw [show Go.Proofs.Ytcliegpofhjpcaa.sweepTo l R l.length = R from hs] at this
      exact this
    refine ext_getL (by rw [h1.len, hI.len]) fun i => (h1.asc i).unique (hI.asc i) fun x => ⟨h3 i x, (hI.sweepTo k).2 i x⟩
  have hil := (List.getElem?_eq_some_iff.1 hf).1
  have h1 := key (i + 1) hil
  rw [sweepTo_succ, key i (by omega)] at h1
  unfold stp at h1
  rw [hf] at h1
  simp only at h1
  have := congrArg (fun o => getL o i) h1
  simp only [getL_set (by rw [hI.len]; exact hil), if_true] at this
  exact this.symm
theorem least_stp {l : List Face} {F outs : List (List Key)} (hF : ∀ (i : Nat) (f : Face), l[i]? = some f → ∀ k, InStep f.md f.own (othersOf l F f.pub) k → k ∈ getL F i) (hl : outs.length = l.length) (h : LeL outs F) (i : Nat) : LeL (stp l outs i) F := by
  unfold stp
  cases hf : l[i]? with
  | none => exact h
  | some f =>
    intro j k hk
    simp only at hk
    rw [getL_set (by rw [hl]; exact (List.getElem?_eq_some_iff.1 hf).1)] at hk
    split at hk
    · rename_i e
      subst e
      exact hF j f hf k (((mem_stepL _ _ _ k).1 hk).mono (others_mono (fun _ => rfl) h k))
    · exact h j k hk
theorem AllIs.least {l : List Face} {R F : List (List Key)} (h : AllIs l R) (hF : ∀ (i : Nat) (f : Face), l[i]? = some f → ∀ k, InStep f.md f.own (othersOf l F f.pub) k → k ∈ getL F i) : LeL R F := by
  obtain ⟨t, rfl, hx⟩ := h
  clear hx
  have sw : ∀ (outs : List (List Key)), outs.length = l.length → LeL outs F → ∀ k, LeL (sweepTo l outs k) F := fun outs ho hle k => by
    induction k with
    | zero => exact hle
    | succ k ih =>
      rw [sweepTo_succ]
      exact least_stp hF (by rw [sweepTo_len, ho]) ih k
  induction t with
  | zero =>
    intro i k hk
    unfold iterS getL startL at hk
    rw [List.getElem?_replicate] at hk
    split at hk <;> cases hk
  | succ t ih => exact sw _ (iterS_len l t) ih _
end Go.Proofs.Ytcliegpofhjpcaa
