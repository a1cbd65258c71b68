/-
  slices.SortFunc over a row of structs of one's own: a permutation of what it held, in order.
  Conditions: the comparison is a function of the elements, and a strict weak order; it may lay blocks.
-/
import Derived.Test.YtlgdminpkkhejaaBm
import Derived.Shelf.SlSortCmp.WholeK
namespace Go.Proofs.Ytlgdminpkkhejaa
open Go.RowKit Go.Shelf Go.Sort

section
variable {P : Program} {ρ : Ren} {α : Type} [Inhabited α]

theorem flt_getElem {enc : α → List Value} {k : Nat} (hk : ∀ x, (enc x).length = k) {xs : List α} {j : Nat} (hj : j < xs.length * k) : (flt enc xs)[j]? = some (flatK enc k xs.toArray)[j]! := by
  have k0 : 0 < k := by
    rcases Nat.eq_zero_or_pos k with h | h
    · subst h; simp at hj
    · exact h
  have h1 : j / k < xs.length := Nat.div_lt_of_lt_mul (by rw [Nat.mul_comm]; exact hj)
  have h2 : j % k < k := Nat.mod_lt _ k0
  have h3 : (enc xs[j / k])[j % k]? = some ((enc xs[j / k])[j % k]'(by rw [hk]; exact h2)) := List.getElem?_eq_getElem _
  have := flt_at hk (List.getElem?_eq_getElem h1) h3
  rw [show j / k * k + j % k = j by rw [Nat.mul_comm]; exact Nat.div_add_mod j k] at this
  rw [this, get_flatK _ _ _ _ (by simpa using hj)]
  simp [h1, h2, hk]

theorem holdsK_own {enc : α → List Value} {k : Nat} (hk : ∀ x, (enc x).length = k) {w : World} {base g n cap : Nat} {T : TypeId} {xs : List α} (h : w.ownsRow base T k (.slice (some ⟨g, 0, none⟩) n cap) n (flt enc xs)) : HoldsK enc k w g 0 xs.toArray := by
  intro j hj
  have hj' : j < xs.length * k := by simpa using hj
  have hc := h.cells (g := g) rfl j _ (flt_getElem hk hj')
  refine ⟨?_, ?_⟩
  · rw [Nat.zero_add]
    have : Addr.add ⟨g, 0, none⟩ j = ⟨g, j, none⟩ := by unfold Addr.add; split <;> simp_all
    rw [this] at hc
    exact hc
  · rw [Nat.zero_add]
    exact h.frozenAt j

theorem own_sorted {enc : α → List Value} {k : Nat} (hk : ∀ x, (enc x).length = k) {w : World} {base g n cap q : Nat} {os : Array Obj} {T : TypeId} {xs : List α} {d : Array α} (hd : d.size = n) (h : w.ownsRow base T k (.slice (some ⟨g, 0, none⟩) n cap) n (flt enc xs)) :
    (sortWorldK enc k w g 0 q d os).ownsRow base T k (.slice (some ⟨g, 0, none⟩) n cap) n (flt enc d.toList) ∧ Kp (fun y => y = g) w (sortWorldK enc k w g 0 q d os) := by
  have hlt := h.lt g rfl
  obtain ⟨hl, h2⟩ := h
  rcases h2 with ⟨h0, _⟩ | ⟨g', cap', cur, hv, hb, hgg, h1, h3, h4, h5⟩
  · cases h0
  · obtain ⟨e1, e2, rfl⟩ := Value.slice.inj hv
    obtain rfl : g = g' := by injection e1 with e1; injection e1
    have hsz : (putRowK enc k (Sort.ahead w q) g 0 d).heap.size = w.heap.size := by simp [putRowK, putRow, mapBlock, Sort.ahead]
    have hblk : (sortWorldK enc k w g 0 q d os).heap[g]? = some (.cells (putCells id 0 (flatK enc k d) cur) T (0, 0)) := by
      unfold sortWorldK grow
      rw [Array.getElem?_append_left (by rw [hsz]; exact hlt.2)]
      simp only [putRowK, putRow, mapBlock, Sort.ahead, Array.getElem?_modify, hgg, if_true, Option.map_some]
      rfl
    refine ⟨⟨by rw [flt_length hk, Array.length_toList, hd], .inr ⟨g, cap, putCells id 0 (flatK enc k d) cur, rfl, hb, hblk, h1, h3, by simp [putCells, h4], ?_⟩⟩, ?_⟩
    · apply List.ext_getElem?
      intro j
      rw [List.getElem?_take]
      by_cases hj : j < n * k
      · rw [if_pos hj]
        have := flt_getElem (xs := d.toList) hk (j := j) (by rw [Array.length_toList, hd]; exact hj)
        rw [this]
        have hcur : j < cur.size := by rw [h4]; exact Nat.lt_of_lt_of_le hj (Nat.mul_le_mul_right _ h1)
        simp [putCells, hd, hj, hcur]
      · rw [if_neg hj, List.getElem?_eq_none]
        rw [flt_length hk, Array.length_toList, hd]
        omega
    · refine ⟨rfl, rfl, rfl, ?_, fun x hx hne => ?_⟩
      · show w.heap.size ≤ ((putRowK enc k (Sort.ahead w q) g 0 d).heap ++ os).size
        rw [Array.size_append, hsz]
        omega
      · show ((putRowK enc k (Sort.ahead w q) g 0 d).heap ++ os)[x]? = _
        rw [Array.getElem?_append_left (by rw [hsz]; exact hx)]
        simp only [putRowK, putRow, mapBlock, Sort.ahead, Array.getElem?_modify]
        rw [if_neg (fun e => hne e.symm)]

def SrtRes (enc : α → List Value) (k : Nat) (cf : α → α → Int) (base : Nat) (T : TypeId) (g cap : Nat) (xs : List α) (w : World) (e : Ending) (w' : World) : Prop :=
  e = .returned (.tuple #[]) ∧ ∃ ys : List α, ys.Perm xs ∧ (ys.Pairwise fun x y => ¬ cf y x < 0) ∧ w'.ownsRow base T k (.slice (some ⟨g, 0, none⟩) xs.length cap) xs.length (flt enc ys) ∧ Kp (fun y => y = g) w w'

theorem sortFunc_own (L : SlLaysF0.n6 P ρ) (k : Nat) (aE : ∀ w, (isAgg (ρ.t 24)).run P w = .ok true w) (zE : ∀ w, (Go.sizeOf (ρ.t 24)).run P w = .ok k w) (enc : α → List Value) (hk : ∀ x, (enc x).length = k) (h1 : ∀ x, ∀ v ∈ enc x, v.oneCell' = true)
    (cf : α → α → Int) (hO : SWO (ltOf cf)) (gf : Nat) (cb : Array Value) (base : Nat) (T : TypeId) (g cap : Nat) (xs : List α) (w : World) (eg : ∀ args w, (callFunc gf args).run P w = .ok (.enter gf args) w)
    (hcmp : ∀ (x y : α) (W : World), Calls P gf (#[.agg (enc x).toArray, .agg (enc y).toArray] ++ cb) W fun e W' => e = .returned (.int .i64 (cf x y)) ∧ ∃ q os, W' = grow (W.drewN q) os)
    (hown : w.ownsRow base T k (.slice (some ⟨g, 0, none⟩) xs.length cap) xs.length (flt enc xs)) (hsz : xs.length < 4611686018427387904) :
    Calls P (ρ.f 6) #[.slice (some ⟨g, 0, none⟩) xs.length cap, .func (.func gf) #[] cb] w (SrtRes enc k cf base T g cap xs w) := by
  have h := AnyQ.slices_SortFunc L k aE zE enc hk h1 cf hO gf cb g 0 cap xs.toArray w eg (fun m os dk hs x y => hcmp x y _) (holdsK_own hk hown) (hown.lt g rfl).2 (by simpa using hsz)
  rw [List.size_toArray] at h
  refine h.mono ?_
  rintro e w' ⟨rfl, d', n, os, hp, hs, rfl⟩
  have hd : d'.size = xs.length := by simpa using hp.1
  have ho := own_sorted (q := n) (os := os) hk hd hown
  refine ⟨rfl, d'.toList, ?_, ?_, ho.1, ho.2⟩
  · have h3 := hp.2.2
    rw [← hd] at h3
    simp at h3
    rw [hd, List.take_length] at h3
    exact h3
  · refine List.pairwise_iff_getElem.2 fun i j hi hj hij => ?_
    have := hs i j (Nat.zero_le _) hij (by simpa [hd] using hj)
    simp at hi hj
    simp only [ltOf, decide_eq_false_iff_not] at this
    simpa [hi, hj] using this
end
end Go.Proofs.Ytlgdminpkkhejaa
