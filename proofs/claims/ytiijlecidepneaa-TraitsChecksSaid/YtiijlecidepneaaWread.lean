/-
  How types, trees and known signatures that came in are read: as trees; each slice and each text that is read weighs at most reachBytes.
  Conditions: those of each theorem.
-/
import Derived.Test.YtiijlecidepneaaLawC
import Derived.ProofKit
import Derived.OpenShut
import Derived.DataElems
import Derived.SizedLaws
namespace Go.Proofs.Ytiijlecidepneaa
open Go.ChangeShapes Go.WideShapes Go.RowKit

theorem listOf {α : Type} {P : Nat → α → Prop} : ∀ n, (∀ i, i < n → ∃ y, P i y) → ∃ l : List α, l.length = n ∧ ∀ i y, l[i]? = some y → P i y
  | 0, _ => ⟨[], rfl, by simp⟩
  | n + 1, h => by
    obtain ⟨l, hl, hp⟩ := listOf n fun i hi => h i (by omega)
    obtain ⟨y, hy⟩ := h n (by omega)
    refine ⟨l ++ [y], by simp [hl], fun i z hz => ?_⟩
    rcases Nat.lt_or_ge i n with hi | hi
    · rw [List.getElem?_append_left (by omega)] at hz
      exact hp i z hz
    · have : i < n + 1 := by have := (List.getElem?_eq_some_iff.1 hz).1; simp at this; omega
      obtain rfl : i = n := by omega
      rw [List.getElem?_append_right (by omega)] at hz
      simp [hl] at hz
      subst hz
      exact hy
theorem cell_in {w : World} {a : Addr} {v : Value} (h : w.cell? a = some v) : a.block < w.heap.size := by
  rcases Nat.lt_or_ge a.block w.heap.size with h1 | h1
  · exact h1
  · unfold World.cell? at h
    rw [Array.getElem?_eq_none h1] at h
    simp at h
theorem wt_mem {H : Type} {P : Program} {e : TypeId} : ∀ {l : List (DataW H)} {d : DataW H}, d ∈ l → ∀ n ∈ DataW.weights P e d, n ∈ DataW.weightsAll P e l
  | a :: r, d, h, n, hn => by
    rw [DataW.weightsAll, List.mem_append]
    rcases List.mem_cons.1 h with rfl | h
    · exact .inl hn
    · exact .inr (wt_mem h n hn)
/-- Each slice and each text that is read is within reach. -/
def Near {H : Type} (t : TypeId) (d : DataW H) : Prop := ∀ n ∈ DataW.weights Try.prog t d, n ≤ reachBytes

/-- A slice that came in: a row of what its elements read as. -/
theorem slice_near {H α : Type} {enc : TypeId × Value → H} {W : World} {t e : TypeId} {s : Nat} (f : α → List Value) (hf : ∀ x, (f x).length = s) (R : α → Prop)
    (ht : Try.prog.underlying t = some (.slice e)) (hs : Try.prog.cellsOf e = s) (hs0 : 0 < s) {fuel : Nat} {cs : List Value} {x : DataW H × List MemPlace}
    (h : DataW.trod enc Try.prog W 0 (fun _ => true) true fuel t cs = some x) (hw : Near t x.1)
    (hel : ∀ n, n < fuel → ∀ cs y, DataW.trod enc Try.prog W 0 (fun _ => true) true n e cs = some y → Near e y.1 → ∃ z : α, cs = f z ∧ R z) :
    ∃ (a0 : Option Addr) (cap : Nat) (xs : List α), cs = [.slice a0 xs.length cap] ∧ (a0 = none → cap = 0) ∧ xs.length ≤ cap ∧ cap ≤ maxLen ∧ Row W (Lt W.heap.size) a0 (flt f xs) ∧ (∀ z ∈ xs, R z) ∧ xs.length * Try.prog.bytesOf e ≤ reachBytes := by
  rcases DataW.trod_slice ht h with ⟨e1, rfl⟩ | ⟨a, len, cap, elems, rest, m, rfl, e1, rfl, _, hlc, hcm, hlen, hel', _, _⟩
  · exact ⟨none, 0, [], e1, fun _ => rfl, Nat.le_refl _, Nat.zero_le _, Row.nil _ _ _, by simp, by simp⟩
  · have hwt : (elems.length + rest.length) * Try.prog.bytesOf e ≤ reachBytes := hw _ (by simp [DataW.weights, ht])
    have each : ∀ i, i < len → ∃ z : α, R z ∧ (∀ j, j < s → W.cell? ((a.add (i * s)).add j) = (f z)[j]?) := by
      intro i hi
      have hel2 := hel' i hi
      have hy : elems[i]? = some (elems[i]'(by omega)) := List.getElem?_eq_getElem _
      rw [hy, hs, Option.bind_eq_some_iff] at hel2
      obtain ⟨cs', hcs, hr⟩ := hel2
      obtain ⟨_, hl2, hcell⟩ := World.cells?_some hcs
      obtain ⟨z, rfl, hR⟩ := hel m (by omega) cs' _ hr (fun n hn => hw n (by
        rw [DataW.weights, ht]
        simp only [List.mem_cons, List.mem_append]
        exact .inr (.inl (wt_mem (List.mem_map_of_mem (List.getElem_mem _)) n hn))))
      exact ⟨z, hR, hcell⟩
    obtain ⟨l, hl, hP⟩ := listOf len each
    refine ⟨some a, cap, l, by rw [hl]; exact e1, (fun e => by cases e), by rw [hl]; exact hlc, hcm, ?_, fun z hz => ?_, ?_⟩
    · rcases Nat.eq_zero_or_pos len with h0 | h0
      · left
        have : l = [] := List.eq_nil_of_length_eq_zero (by omega)
        rw [this]
        rfl
      · have key : ∀ j u, (flt f l)[j]? = some u → W.cell? (a.add j) = some u := fun j u hu => by
          have hj := (List.getElem?_eq_some_iff.1 hu).1
          rw [flt_length hf, hl] at hj
          have hi : j / s < l.length := by rw [hl]; exact Nat.div_lt_of_lt_mul (by rwa [Nat.mul_comm])
          have hm : j % s < s := Nat.mod_lt _ hs0
          have hx : l[j / s]? = some l[j / s] := List.getElem?_eq_getElem hi
          obtain ⟨_, hc⟩ := hP _ _ hx
          have hv : (f l[j / s])[j % s]? = some ((f l[j / s])[j % s]'(by rw [hf]; exact hm)) := List.getElem?_eq_getElem _
          have h1 := flt_at hf hx hv
          have e2 : j / s * s + j % s = j := Nat.div_add_mod' j s
          rw [e2, hu] at h1
          have h2 := hc _ hm
          rw [hv, addAdd, e2] at h2
          rw [h2, h1]
        refine .inr ⟨a, rfl, ?_, key⟩
        have h00 : (flt f l)[0]? = some ((flt f l)[0]'(by rw [flt_length hf, hl]; exact Nat.mul_pos h0 hs0)) := List.getElem?_eq_getElem _
        have := cell_in (key 0 _ h00)
        rwa [blkAdd] at this
    · obtain ⟨i, hi⟩ := List.getElem?_of_mem hz
      exact (hP i z hi).1
    · have : l.length * Try.prog.bytesOf e ≤ (elems.length + rest.length) * Try.prog.bytesOf e := Nat.mul_le_mul_right _ (by omega)
      omega
theorem reach_is : reachBytes = 140737488351232 := rfl
theorem svData (s : ByteArray) : Value.string s = sv s.data.toList := by unfold sv bs; simp
/-- A text that came in. -/
theorem text_near {H : Type} {enc : TypeId × Value → H} {W : World} {n : Nat} {cs : List Value} {y : DataW H × List MemPlace} (h : DataW.trod enc Try.prog W 0 (fun _ => true) true n 9 cs = some y) (hw : Near 9 y.1) :
    ∃ s : List UInt8, cs = [sv s] ∧ s.length ≤ 140737488355328 := by
  obtain ⟨s, rfl, rfl, hs⟩ := DataW.trod_string Try.underlying9 h
  have h1 := hw s.data.toList.length (by simp [DataW.weights])
  rw [reach_is] at h1
  exact ⟨s.data.toList, by rw [svData], by omega⟩
theorem two_of {α : Type} : ∀ {l : List α}, l.length = 2 → ∃ u v, l = [u, v]
  | [u, v], _ => ⟨u, v, rfl⟩
theorem four_of {α : Type} : ∀ {l : List α}, l.length = 4 → ∃ u v x y, l = [u, v, x, y]
  | [u, v, x, y], _ => ⟨u, v, x, y, rfl⟩
theorem six_of {α : Type} : ∀ {l : List α}, l.length = 6 → ∃ a b c d e f, l = [a, b, c, d, e, f]
  | [a, b, c, d, e, f], _ => ⟨a, b, c, d, e, f, rfl⟩
theorem seven_of {α : Type} : ∀ {l : List α}, l.length = 7 → ∃ a b c d e f g, l = [a, b, c, d, e, f, g]
  | [a, b, c, d, e, f, g], _ => ⟨a, b, c, d, e, f, g, rfl⟩
theorem eight_of {α : Type} : ∀ {l : List α}, l.length = 8 → ∃ a b, l = a :: b ∧ b.length = 7
  | a :: b, h => ⟨a, b, rfl, by simpa using h⟩
theorem flat2_flt (xs : List (Ty × Value × Value)) : flt (fun z : Ty × Value × Value => [z.2.1, z.2.2]) xs = flat2 (xs.map (·.2)) := by
  simp [flt, flat2, List.flatMap_map]

/-- A type that came in. -/
theorem ty_near {H : Type} (enc : TypeId × Value → H) (W : World) (fuel : Nat) : ∀ (cs : List Value) (x : DataW H × List MemPlace), DataW.trod enc Try.prog W 0 (fun _ => true) true fuel 35 cs = some x → Near 35 x.1 →
    ∃ z : Ty × Value × Value, cs = [z.2.1, z.2.2] ∧ TyIs W (Lt W.heap.size) z.1 z.2.1 z.2.2 := by
  induction fuel using Nat.strongRecOn with | ind fuel ih => ?_
  intro cs x h hw
  obtain ⟨xs, n, rfl, rfl, hcl, hxl, hf⟩ := DataW.trod_struct Try.underlying35 h
  rw [show Try.prog.cellsOf 35 = 2 by kernel_rfl] at hcl
  obtain ⟨u, v, rfl⟩ := two_of hcl
  obtain ⟨y0, y1, rfl⟩ := two_of (hxl.trans rfl)
  have h0 := hf 0 _ rfl
  have h1 := hf 1 _ rfl
  change DataW.trod enc Try.prog W 0 (fun _ => true) true n 9 (([u, v].drop 0).take (Try.prog.cellsOf 9)) = [y0, y1][0]? at h0
  change DataW.trod enc Try.prog W 0 (fun _ => true) true n 33 (([u, v].drop 1).take (Try.prog.cellsOf 33)) = [y0, y1][1]? at h1
  rw [show Try.prog.cellsOf 9 = 1 by kernel_rfl] at h0
  rw [show Try.prog.cellsOf 33 = 1 by kernel_rfl] at h1
  have hws : ∀ n, (n ∈ DataW.weights Try.prog 9 y0.1 ∨ n ∈ DataW.weights Try.prog 33 y1.1) → n ≤ reachBytes := fun n hn => hw n (by
    simp only [DataW.weights, Try.underlying35]
    show n ∈ DataW.weightsEach Try.prog [9, 33] [y0.1, y1.1]
    simp only [DataW.weightsEach, List.mem_append]
    rcases hn with h | h
    · exact .inl h
    · exact .inr (.inl h))
  obtain ⟨s, e0, hs⟩ := text_near (y := y0) h0 fun n hn => hws n (.inl hn)
  obtain ⟨A, c, zs, e1, _, hc1, hc2, hr, hR, hb⟩ := slice_near (fun z : Ty × Value × Value => [z.2.1, z.2.2]) (s := 2) (fun _ => rfl) (fun z => TyIs W (Lt W.heap.size) z.1 z.2.1 z.2.2) Try.underlying33 (by kernel_rfl) (by decide) (x := y1) h1 (fun n hn => hws n (.inr hn)) fun m hm cs y hy hw => ih m (by omega) cs y hy hw
  obtain rfl : u = sv s := by simpa using e0
  obtain rfl : v = .slice A zs.length c := by simpa using e1
  rw [show Try.prog.bytesOf 35 = 40 by kernel_rfl, reach_is] at hb
  have hT : Tys W (Lt W.heap.size) A (zs.map (·.1)) (zs.map (·.2)) := ⟨by simp, by rw [← flat2_flt]; exact hr, fun i t p ht hp => by
    rw [List.getElem?_map] at ht hp
    obtain ⟨z, hz, rfl⟩ := Option.map_eq_some_iff.1 ht
    rw [hz] at hp
    obtain rfl := Option.some.inj hp
    exact hR z (List.mem_of_getElem? hz)⟩
  have := hT.close (n := s) (c := c) hs (by rw [List.length_map]; omega) ⟨by rw [List.length_map]; exact hc1, hc2⟩
  rw [List.length_map] at this
  exact ⟨(.mk s (zs.map (·.1)), sv s, .slice A zs.length c), rfl, this⟩
/-- A tree that came in. -/
theorem tree_near {H : Type} (enc : TypeId × Value → H) (W : World) (fuel : Nat) : ∀ (cs : List Value) (x : DataW H × List MemPlace), DataW.trod enc Try.prog W 0 (fun _ => true) true fuel 25 cs = some x → Near 25 x.1 →
    ∃ z : Tr × Value, cs = trC z ∧ TrIs W (Lt W.heap.size) z.1 z.2 := by
  induction fuel using Nat.strongRecOn with | ind fuel ih => ?_
  intro cs x h hw
  obtain ⟨xs, n, rfl, rfl, hcl, hxl, hf⟩ := DataW.trod_struct Try.underlying25 h
  rw [show Try.prog.cellsOf 25 = 4 by kernel_rfl] at hcl
  obtain ⟨a, b, c, d, rfl⟩ := four_of hcl
  obtain ⟨y0, y1, y2, y3, rfl⟩ := four_of (hxl.trans rfl)
  have h0 := hf 0 _ rfl
  have h1 := hf 1 _ rfl
  have h2 := hf 2 _ rfl
  have h3 := hf 3 _ rfl
  change DataW.trod enc Try.prog W 0 (fun _ => true) true n 3 (([a, b, c, d].drop 0).take (Try.prog.cellsOf 3)) = [y0, y1, y2, y3][0]? at h0
  change DataW.trod enc Try.prog W 0 (fun _ => true) true n 9 (([a, b, c, d].drop 1).take (Try.prog.cellsOf 9)) = [y0, y1, y2, y3][1]? at h1
  change DataW.trod enc Try.prog W 0 (fun _ => true) true n 3 (([a, b, c, d].drop 2).take (Try.prog.cellsOf 3)) = [y0, y1, y2, y3][2]? at h2
  change DataW.trod enc Try.prog W 0 (fun _ => true) true n 23 (([a, b, c, d].drop 3).take (Try.prog.cellsOf 23)) = [y0, y1, y2, y3][3]? at h3
  rw [show Try.prog.cellsOf 3 = 1 by kernel_rfl] at h0 h2
  rw [show Try.prog.cellsOf 9 = 1 by kernel_rfl] at h1
  rw [show Try.prog.cellsOf 23 = 1 by kernel_rfl] at h3
  have hws : ∀ n, (n ∈ DataW.weights Try.prog 9 y1.1 ∨ n ∈ DataW.weights Try.prog 23 y3.1) → n ≤ reachBytes := fun n hn => hw n (by
    simp only [DataW.weights, Try.underlying25]
    show n ∈ DataW.weightsEach Try.prog [3, 9, 3, 23] [y0.1, y1.1, y2.1, y3.1]
    simp only [DataW.weightsEach, List.mem_append]
    rcases hn with h | h
    · exact .inr (.inl h)
    · exact .inr (.inr (.inr (.inl h))))
  obtain ⟨k, e0, _, hk⟩ := DataW.trod_int (x := y0) Try.underlying3 h0
  obtain ⟨s, e1, hs⟩ := text_near (y := y1) h1 fun n hn => hws n (.inl hn)
  obtain ⟨p, e2, _, hp⟩ := DataW.trod_int (x := y2) Try.underlying3 h2
  obtain ⟨A, cc, zs, e3, hA, hc1, hc2, hr, hR, hb⟩ := slice_near trC (s := 4) trC_len (fun z => TrIs W (Lt W.heap.size) z.1 z.2) Try.underlying23 (by kernel_rfl) (by decide) (x := y3) h3 (fun n hn => hws n (.inr hn)) fun m hm cs y hy hw => ih m (by omega) cs y hy hw
  obtain rfl : a = .int .i64 k := by simpa using e0
  obtain rfl : b = sv s := by simpa using e1
  obtain rfl : c = .int .i64 p := by simpa using e2
  obtain rfl : d = .slice A zs.length cc := by simpa using e3
  rw [show Try.prog.bytesOf 25 = 56 by kernel_rfl, reach_is] at hb
  exact ⟨(.mk k s p (zs.map (·.1)), .slice A zs.length cc), rfl, .mk k s p zs A cc (bounds_i64 hk) (bounds_i64 hp) hs (by omega) ⟨hc1, hc2⟩ hA hr fun i z hz => hR z (List.mem_of_getElem? hz)⟩
/-- A slice whose elements are not read. -/
theorem bare_near {H : Type} {enc : TypeId × Value → H} {W : World} {t e : TypeId} (ht : Try.prog.underlying t = some (.slice e)) {n : Nat} {cs : List Value} {y : DataW H × List MemPlace} (h : DataW.trod enc Try.prog W 0 (fun _ => true) true n t cs = some y) : ∃ v : Option Addr × Nat × Nat, cs = [.slice v.1 v.2.1 v.2.2] := by
  rcases DataW.trod_slice ht h with ⟨e1, _⟩ | ⟨a, len, cap, _, _, _, _, e1, _⟩
  · exact ⟨(none, 0, 0), e1⟩
  · exact ⟨(some a, len, cap), e1⟩
/-- A signature that came in. -/
theorem sig_near {H : Type} {enc : TypeId × Value → H} {W : World} {n : Nat} {cs : List Value} {x : DataW H × List MemPlace} (h : DataW.trod enc Try.prog W 0 (fun _ => true) true n 39 cs = some x) (hw : Near 39 x.1) :
    ∃ z : Sg × SV, cs = z.2.cells ∧ SgIs W (Lt W.heap.size) z.1 z.2 := by
  obtain ⟨xs, n, rfl, rfl, hcl, hxl, hf⟩ := DataW.trod_struct Try.underlying39 h
  rw [show Try.prog.cellsOf 39 = 7 by kernel_rfl] at hcl
  obtain ⟨a, b, c, d, e, f, g, rfl⟩ := seven_of hcl
  obtain ⟨y0, y1, y2, y3, y4, y5, rfl⟩ := six_of (hxl.trans rfl)
  have h0 := hf 0 _ rfl
  have h1 := hf 1 _ rfl
  have h2 := hf 2 _ rfl
  have h3 := hf 3 _ rfl
  have h4 := hf 4 _ rfl
  have h5 := hf 5 _ rfl
  change DataW.trod enc Try.prog W 0 (fun _ => true) true n 3 (([a, b, c, d, e, f, g].drop 0).take (Try.prog.cellsOf 3)) = [y0, y1, y2, y3, y4, y5][0]? at h0
  change DataW.trod enc Try.prog W 0 (fun _ => true) true n 36 (([a, b, c, d, e, f, g].drop 1).take (Try.prog.cellsOf 36)) = [y0, y1, y2, y3, y4, y5][1]? at h1
  change DataW.trod enc Try.prog W 0 (fun _ => true) true n 37 (([a, b, c, d, e, f, g].drop 2).take (Try.prog.cellsOf 37)) = [y0, y1, y2, y3, y4, y5][2]? at h2
  change DataW.trod enc Try.prog W 0 (fun _ => true) true n 33 (([a, b, c, d, e, f, g].drop 3).take (Try.prog.cellsOf 33)) = [y0, y1, y2, y3, y4, y5][3]? at h3
  change DataW.trod enc Try.prog W 0 (fun _ => true) true n 35 (([a, b, c, d, e, f, g].drop 4).take (Try.prog.cellsOf 35)) = [y0, y1, y2, y3, y4, y5][4]? at h4
  change DataW.trod enc Try.prog W 0 (fun _ => true) true n 9 (([a, b, c, d, e, f, g].drop 6).take (Try.prog.cellsOf 9)) = [y0, y1, y2, y3, y4, y5][5]? at h5
  rw [show Try.prog.cellsOf 3 = 1 by kernel_rfl] at h0
  rw [show Try.prog.cellsOf 36 = 1 by kernel_rfl] at h1
  rw [show Try.prog.cellsOf 37 = 1 by kernel_rfl] at h2
  rw [show Try.prog.cellsOf 33 = 1 by kernel_rfl] at h3
  rw [show Try.prog.cellsOf 35 = 2 by kernel_rfl] at h4
  rw [show Try.prog.cellsOf 9 = 1 by kernel_rfl] at h5
  have hws : ∀ n, (n ∈ DataW.weights Try.prog 33 y3.1 ∨ n ∈ DataW.weights Try.prog 35 y4.1 ∨ n ∈ DataW.weights Try.prog 9 y5.1) → n ≤ reachBytes := fun n hn => hw n (by
    simp only [DataW.weights, Try.underlying39]
    show n ∈ DataW.weightsEach Try.prog [3, 36, 37, 33, 35, 9] [y0.1, y1.1, y2.1, y3.1, y4.1, y5.1]
    simp only [DataW.weightsEach, List.mem_append]
    rcases hn with h | h | h
    · exact .inr (.inr (.inr (.inl h)))
    · exact .inr (.inr (.inr (.inr (.inl h))))
    · exact .inr (.inr (.inr (.inr (.inr (.inl h))))))
  obtain ⟨k, e0, _, _⟩ := DataW.trod_int (x := y0) Try.underlying3 h0
  obtain ⟨vP, e1⟩ := bare_near (y := y1) Try.underlying36 h1
  obtain ⟨vN, e2⟩ := bare_near (y := y2) Try.underlying37 h2
  obtain ⟨A, cc, zs, e3, _, hc1, hc2, hr, hR, hb⟩ := slice_near (fun z : Ty × Value × Value => [z.2.1, z.2.2]) (s := 2) (fun _ => rfl) (fun z => TyIs W (Lt W.heap.size) z.1 z.2.1 z.2.2) Try.underlying33 (by kernel_rfl) (by decide) (x := y3) h3 (fun n hn => hws n (.inl hn)) fun m hm cs y hy hw => ty_near enc W m cs y hy hw
  obtain ⟨⟨rt, ru, rv⟩, e4, hrt⟩ := ty_near enc W n _ y4 h4 fun n hn => hws n (.inr (.inl hn))
  obtain ⟨s5, e5, _⟩ := text_near (y := y5) h5 fun n hn => hws n (.inr (.inr hn))
  simp only at e4 hrt
  obtain ⟨ru, rv, rfl, rfl⟩ := hrt.shape
  obtain rfl : a = .int .i64 k := by simpa using e0
  obtain rfl : b = .slice vP.1 vP.2.1 vP.2.2 := by simpa using e1
  obtain rfl : c = .slice vN.1 vN.2.1 vN.2.2 := by simpa using e2
  obtain rfl : d = .slice A zs.length cc := by simpa using e3
  obtain ⟨rfl, rfl⟩ : e = sv ru ∧ f = .slice rv.1 rv.2.1 rv.2.2 := by simpa using e4
  obtain rfl : g = sv s5 := by simpa using e5
  rw [show Try.prog.bytesOf 35 = 40 by kernel_rfl, reach_is] at hb
  have hT : Tys W (Lt W.heap.size) A (zs.map (·.1)) (zs.map (·.2)) := ⟨by simp, by rw [← flat2_flt]; exact hr, fun i t p ht hp => by
    rw [List.getElem?_map] at ht hp
    obtain ⟨z, hz, rfl⟩ := Option.map_eq_some_iff.1 ht
    rw [hz] at hp
    obtain rfl := Option.some.inj hp
    exact hR z (List.mem_of_getElem? hz)⟩
  exact ⟨((zs.map (·.1), rt), ⟨k, vP, vN, (A, zs.length, cc), ru, rv, s5⟩), rfl, ⟨by simp, by rw [List.length_map]; exact ⟨hc1, hc2⟩, by rw [List.length_map]; omega, ⟨_, hT⟩, hrt⟩⟩
/-- Known signatures that came in. -/
theorem knowns_near {H : Type} {enc : TypeId × Value → H} {W : World} {n : Nat} {cs : List Value} {x : DataW H × List MemPlace} (h : DataW.trod enc Try.prog W 0 (fun _ => true) true n 26 cs = some x) (hw : Near 26 x.1) :
    ∃ (A : Option Addr) (c : Nat) (l : List Kn) (qs : List KnV), cs = [.slice A l.length c] ∧ Kns W (Lt W.heap.size) A l qs := by
  obtain ⟨A, c, zs, e, _, _, _, hr, hR, _⟩ := slice_near (fun z : Kn × KnV => knC z.2) (s := 8) (fun z => knC_len z.2) (fun z => z.1.1 = z.2.1 ∧ SgIs W (Lt W.heap.size) z.1.2 z.2.2) Try.underlying26 (by kernel_rfl) (by decide) h hw fun m hm cs y hy hw => by
    obtain ⟨xs, n, rfl, rfl, hcl, hxl, hf⟩ := DataW.trod_struct Try.underlying41 hy
    rw [show Try.prog.cellsOf 41 = 8 by kernel_rfl] at hcl
    obtain ⟨a, b, rfl, hb7⟩ := eight_of hcl
    obtain ⟨y0, y1, rfl⟩ := two_of (hxl.trans rfl)
    have h0 := hf 0 _ rfl
    have h1 := hf 1 _ rfl
    change DataW.trod enc Try.prog W 0 (fun _ => true) true n 9 (((a :: b).drop 0).take (Try.prog.cellsOf 9)) = [y0, y1][0]? at h0
    change DataW.trod enc Try.prog W 0 (fun _ => true) true n 39 (((a :: b).drop 1).take (Try.prog.cellsOf 39)) = [y0, y1][1]? at h1
    rw [show Try.prog.cellsOf 9 = 1 by kernel_rfl] at h0
    rw [show Try.prog.cellsOf 39 = 7 by kernel_rfl, List.drop_succ_cons, List.drop_zero, List.take_of_length_le (by omega)] at h1
    have hws : ∀ n, (n ∈ DataW.weights Try.prog 9 y0.1 ∨ n ∈ DataW.weights Try.prog 39 y1.1) → n ≤ reachBytes := fun n hn => hw n (by
      simp only [DataW.weights, Try.underlying41]
      show n ∈ DataW.weightsEach Try.prog [9, 39] [y0.1, y1.1]
      simp only [DataW.weightsEach, List.mem_append]
      rcases hn with h | h
      · exact .inl h
      · exact .inr (.inl h))
    obtain ⟨s, e0, _⟩ := text_near (y := y0) h0 fun n hn => hws n (.inl hn)
    obtain ⟨z, e1, hz⟩ := sig_near (x := y1) h1 fun n hn => hws n (.inr hn)
    obtain rfl : a = sv s := by simpa using e0
    subst e1
    exact ⟨((s, z.1), (s, z.2)), rfl, rfl, hz⟩
  refine ⟨A, c, zs.map (·.1), zs.map (·.2), by rw [List.length_map]; exact e, ⟨?_, ?_, fun i k q hk hq => ?_⟩⟩
  · have e2 : flt knC (zs.map (·.2)) = flt (fun z : Kn × KnV => knC z.2) zs := by simp [flt, List.flatMap_map]
    rw [e2]
    exact hr
  · rw [List.map_map, List.map_map]
    exact List.map_congr_left fun z hz => (hR z hz).1.symm
  · rw [List.getElem?_map] at hk hq
    obtain ⟨z, hz, rfl⟩ := Option.map_eq_some_iff.1 hk
    rw [hz] at hq
    obtain rfl := Option.some.inj hq
    exact hR z (List.mem_of_getElem? hz)
end Go.Proofs.Ytiijlecidepneaa
