/-
  ModulesLeast, the plain law: modules in another order give the same; what is given is defined by somebody.
  No condition beyond those of each theorem.
-/
import Derived.Test.YtcliegpofhjpcaaMdQ
namespace Go.Proofs.Ytcliegpofhjpcaa
open Go.RowKit

theorem fst_some {l : List Face} {m : List UInt8} {j : Nat} (h : fstI l m = some j) : ∃ f, l[j]? = some f ∧ f.md = m := by
  unfold fstI at h
  obtain ⟨hj, h1, _⟩ := List.findIdx?_eq_some_iff_getElem.1 h
  exact ⟨l[j], List.getElem?_eq_getElem hj, of_decide_eq_true h1⟩
theorem fst_nodup {l : List Face} (hn : (l.map (·.md)).Nodup) {i : Nat} {f : Face} (hf : l[i]? = some f) : fstI l f.md = some i := by
  have hi := (List.getElem?_eq_some_iff.1 hf).1
  have hfe : l[i] = f := (List.getElem?_eq_some_iff.1 hf).2
  unfold fstI
  refine List.findIdx?_eq_some_iff_getElem.2 ⟨hi, by simp [hfe], fun j hj => ?_⟩
  have hj' : j < l.length := Nat.lt_trans hj hi
  simp only [decide_eq_true_eq]
  intro e
  have := (List.getElem_inj (i := j) (j := i) (h₀ := by simpa using hj') (h₁ := by simpa using hi) hn).1 (by simpa [hfe] using e)
  omega
/-- The modules m are those of l at other places: what they give is no more. -/
theorem rot_le {l m : List Face} {R R' : List (List Key)} (σ : Nat → Nat) (h : AllIs l R) (h' : AllIs m R') (hn : (l.map (·.md)).Nodup) (hσ : ∀ (i : Nat) (f : Face), m[i]? = some f → l[σ i]? = some f) {i : Nat} (k : Key) (hk : k ∈ getL R' i) (hi : i < m.length) : k ∈ getL R (σ i) := by
  obtain ⟨F, hF⟩ : ∃ F, F = (List.range m.length).map fun i => getL R (σ i) := ⟨_, rfl⟩
  have hg : ∀ i, i < m.length → getL F i = getL R (σ i) := fun i hi => by
    rw [hF]
    unfold getL
    simp [hi]
  have hle := h'.least (F := F) fun j f hf x hx => by
    have hj := (List.getElem?_eq_some_iff.1 hf).1
    rw [hg j hj, h.fix (hσ j f hf), mem_stepL]
    refine hx.mono fun y hy hky => ?_
    obtain ⟨mm, hmm, he⟩ := List.mem_filterMap.1 hy
    obtain ⟨t, ht, rfl⟩ := Option.map_eq_some_iff.1 he
    obtain ⟨g, hg1, hg2⟩ := fst_some ht
    refine ⟨getL R (σ t), List.mem_filterMap.2 ⟨mm, hmm, ?_⟩, ?_⟩
    · rw [← hg2, fst_nodup hn (hσ t g hg1)]
      rfl
    · rwa [hg t (List.getElem?_eq_some_iff.1 hg1).1] at hky
  have := hle i k hk
  rwa [hg i hi] at this
theorem rot_eq {l m : List Face} {R R' : List (List Key)} (σ τ : Nat → Nat) (h : AllIs l R) (h' : AllIs m R') (hn : (l.map (·.md)).Nodup) (hn' : (m.map (·.md)).Nodup) (hσ : ∀ (i : Nat) (f : Face), m[i]? = some f → l[σ i]? = some f) (hτ : ∀ (i : Nat) (f : Face), l[i]? = some f → m[τ i]? = some f) (hst : ∀ i, i < m.length → σ i < l.length ∧ τ (σ i) = i) {i : Nat} (hi : i < m.length) : getL R' i = getL R (σ i) := by
  refine (h'.inv.asc i).unique (h.inv.asc (σ i)) fun k => ⟨fun hk => rot_le σ h h' hn hσ k hk hi, fun hk => ?_⟩
  have := rot_le τ h' h hn' hτ k hk (hst i hi).1
  rwa [(hst i hi).2] at this

def names4 : List (List UInt8) := [[97], [98], [99], [100]]
/-- The four modules of law06's ModulesLeast, or the first of them. -/
structure Four (k : Nat) (l : List Face) : Prop where
  md : l.map (·.md) = names4.take k
  own : ∀ f ∈ l, f.own.length ≤ 2 ∧ ∀ n ∈ f.own, n.length ≤ 1
  pub : ∀ f ∈ l, f.pub.length ≤ 2 ∧ ∀ n ∈ f.pub, n ∈ names4
theorem Four.len {k : Nat} {l : List Face} (h : Four k l) (hk : k ≤ 4) : l.length = k := by
  have := congrArg List.length h.md
  rw [List.length_map, List.length_take] at this
  rw [this]
  simp [names4]
  omega
theorem Four.snoc {k : Nat} {l : List Face} (h : Four k l) {f : Face} (hm : names4[k]? = some f.md) (ho : f.own.length ≤ 2 ∧ ∀ n ∈ f.own, n.length ≤ 1) (hp : f.pub.length ≤ 2 ∧ ∀ n ∈ f.pub, n ∈ names4) : Four (k + 1) (l ++ [f]) := by
  refine ⟨by rw [List.map_append, h.md, List.take_add_one, hm]; rfl, fun g hg => ?_, fun g hg => ?_⟩
  · rcases List.mem_append.1 hg with e | e
    · exact h.own g e
    · rw [List.mem_singleton.1 e]
      exact ho
  · rcases List.mem_append.1 hg with e | e
    · exact h.pub g e
    · rw [List.mem_singleton.1 e]
      exact hp
theorem Four.small {l : List Face} (h : Four 4 l) : Small l := ⟨by rw [h.len (Nat.le_refl _)]; exact Nat.le_refl _, fun f hf => by
  have h1 : f.md ∈ l.map (·.md) := List.mem_map_of_mem hf
  rw [h.md] at h1
  simp [names4] at h1
  rcases h1 with e | e | e | e <;> rw [e] <;> simp, fun f hf => ⟨by have := (h.own f hf).1; omega, fun n hn => by have := (h.own f hf).2 n hn; omega⟩, fun f hf => by have := (h.pub f hf).1; omega⟩
theorem Four.nodup {l : List Face} (h : Four 4 l) : (l.map (·.md)).Nodup := by
  rw [h.md]
  decide
theorem Four.at_ {l : List Face} (h : Four 4 l) {t : Nat} {f : Face} (hf : l[t]? = some f) : names4[t]? = some f.md := by
  have := congrArg (fun x : List (List UInt8) => x[t]?) h.md
  simp only [List.getElem?_map, hf, Option.map_some] at this
  rw [← List.getElem?_take_of_lt (i := t) (j := 4) (by have := (List.getElem?_eq_some_iff.1 hf).1; rw [h.len (Nat.le_refl _)] at this; exact this)]
  exact this.symm
theorem Four.fst {l : List Face} (h : Four 4 l) {t : Nat} {m : List UInt8} (hm : names4[t]? = some m) : fstI l m = some t := by
  have ht : t < 4 := (List.getElem?_eq_some_iff.1 hm).1
  obtain ⟨f, hf⟩ : ∃ f, l[t]? = some f := ⟨_, List.getElem?_eq_getElem (by rw [h.len (Nat.le_refl _)]; exact ht)⟩
  have h1 := h.at_ hf
  rw [hm] at h1
  rw [Option.some.inj h1]
  exact fst_nodup h.nodup hf
/-- Turned by k. -/
def turnF (l : List Face) (k : Nat) : List Face := l.drop k ++ l.take k
theorem turn_fit {l : List Face} (h : Small l) (k : Nat) : Fit (turnF l k) := by
  have hin : ∀ f ∈ turnF l k, f ∈ l := fun f hf => by
    rcases List.mem_append.1 hf with e | e
    · exact List.mem_of_mem_drop e
    · exact List.mem_of_mem_take e
  refine Small.fit ⟨?_, fun f hf => h.md f (hin f hf), fun f hf => h.own f (hin f hf), fun f hf => h.pub f (hin f hf)⟩
  have := h.few
  simp [turnF]
  omega
theorem Four.turned {l : List Face} (h : Four 4 l) {k : Nat} (hk : k < 4) {R R' : List (List Key)} (hR : AllIs l R) (hR' : AllIs (turnF l k) R') {i : Nat} (hi : i < 4) : getL R' i = getL R ((i + k) % 4) := by
  have hl := h.len (Nat.le_refl _)
  have ht : (turnF l k).length = 4 := by simp [turnF, hl]; omega
  have hnt : ((turnF l k).map (·.md)).Nodup := by
    unfold turnF
    rw [List.map_append, List.map_drop, List.map_take, h.md]
    have : k = 0 ∨ k = 1 ∨ k = 2 ∨ k = 3 := by omega
    rcases this with rfl | rfl | rfl | rfl <;> decide
  have hat : ∀ i, i < 4 → (turnF l k)[i]? = l[(i + k) % 4]? := fun i hi => by
    unfold turnF
    by_cases hc : i < 4 - k
    · rw [List.getElem?_append_left (by rw [List.length_drop, hl]; exact hc), List.getElem?_drop, Nat.mod_eq_of_lt (by omega), Nat.add_comm]
    · rw [List.getElem?_append_right (by rw [List.length_drop, hl]; omega), List.length_drop, hl, List.getElem?_take_of_lt (by omega)]
      congr 1
      omega
  refine rot_eq (fun i => (i + k) % 4) (fun j => (j + (4 - k)) % 4) hR hR' h.nodup hnt (fun i f hf => ?_) (fun j f hf => ?_) (fun i hi => ?_) (by rw [ht]; exact hi)
  · have := (List.getElem?_eq_some_iff.1 hf).1
    rw [← hat i (by omega)]
    exact hf
  · have := (List.getElem?_eq_some_iff.1 hf).1
    rw [hat _ (by omega)]
    rw [show ((j + (4 - k)) % 4 + k) % 4 = j by omega]
    exact hf
  · rw [ht] at hi
    exact ⟨by rw [hl]; omega, by show ((i + k) % 4 + (4 - k)) % 4 = i; omega⟩
/-- Who defines what is given. -/
theorem Four.who {l : List Face} (h : Four 4 l) {R : List (List Key)} (hR : AllIs l R) {i : Nat} {x : Key} (hx : x ∈ getL R i) : ∃ (t : Nat) (f : Face) (m : List UInt8), l[t]? = some f ∧ names4[t]? = some m ∧ x.1 ∈ f.own ∧ x.2 = m ++ [58, 58] ++ x.1 := by
  obtain ⟨f, hf, hx⟩ := List.mem_flatMap.1 (hR.inv.sub i x hx)
  obtain ⟨n, hn, rfl⟩ := List.mem_map.1 hx
  obtain ⟨t, ht⟩ := List.getElem?_of_mem hf
  exact ⟨t, f, f.md, ht, h.at_ ht, (List.mem_filter.1 hn).1, rfl⟩
theorem outs_sm {l : List Face} {R : List (List Key)} (h : AllIs l R) (hf : Fit l) {i : Nat} {x : List Key} (hx : R[i]? = some x) : x.length ≤ 100000000 := by
  have := asc_len_le (h.inv.asc i) (h.inv.sub i)
  rw [getL_of hx] at this
  have := hf.all
  omega
theorem fvs_1 {w : World} {S : Nat → Prop} {vs : List FV} {l : List Face} (hl : vs.length = l.length) (h : ∀ (i : Nat) (u : FV) (f : Face), vs[i]? = some u → l[i]? = some f → u.md = f.md ∧ StrsV w S u.ov f.own ∧ StrsV w S u.pv f.pub) : ∀ u ∈ flt fvC vs, u.oneCell' = true := by
  intro u hu
  obtain ⟨x, hx, hu⟩ := List.mem_flatMap.1 hu
  obtain ⟨i, hi⟩ := List.getElem?_of_mem hx
  obtain ⟨f, hf⟩ : ∃ f, l[i]? = some f := ⟨_, List.getElem?_eq_getElem (by rw [← hl]; exact (List.getElem?_eq_some_iff.1 hi).1)⟩
  obtain ⟨_, ⟨A1, c1, e1, _⟩, A2, c2, e2, _⟩ := h i x f hi hf
  unfold fvC at hu
  rw [e1, e2] at hu
  simp only [List.mem_cons, List.not_mem_nil, or_false] at hu
  rcases hu with rfl | rfl | rfl <;> rfl
end Go.Proofs.Ytcliegpofhjpcaa
