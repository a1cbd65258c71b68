/-
  TraitsChecks: the diagnostics of implementations: methods that lack, others, and other signatures: the given statement, proved.
  Conditions: none beyond the given row's own.
-/
import Derived.Test.YtiijlecidepneaaWread
import Derived.OpenShut
namespace Go.Proofs.Ytiijlecidepneaa
open Go.ChangeShapes Go.WideShapes Go.ChangeAt Go.RowKit

theorem own : ownKnob Try.prog.godebug = none := by kernel_rfl
theorem laidOut : laidOutB Try.prog = true := by kernel_rfl
theorem cellsI : Try.prog.cellsOf 3 = 1 := by kernel_rfl
/-- Ints that came in. -/
theorem ints_in {H : Type} {enc : TypeId × Value → H} {W : World} {a0 : Option Addr} {len cap fuel : Nat} {x : DataW H × List MemPlace} (hf : DataW.trod enc Try.prog W 0 (fun _ => true) true fuel 22 (Value.slice a0 len cap).cells.toList = some x) :
    ∃ xs : List Int, xs.length = len ∧ Row W (Lt W.heap.size) a0 (xs.map (Value.int .i64)) ∧ ∀ z ∈ xs, -9223372036854775808 ≤ z ∧ z ≤ 9223372036854775807 := by
  rcases open_ints Try.underlying22 Try.underlying3 cellsI hf with ⟨hcs, hx⟩ | ⟨a, len', cap', zs, hcs, _, hl, hm, hz, hx, hcell, hws⟩
  · simp [Value.cells] at hcs
    obtain ⟨rfl, rfl, rfl⟩ := hcs
    exact ⟨[], rfl, Row.nil _ _ _, fun x hx => by simp at hx⟩
  · simp [Value.cells] at hcs
    obtain ⟨rfl, rfl, rfl⟩ := hcs
    simp only [if_true] at hz
    refine ⟨zs.take len, by rw [List.length_take]; omega, ?_, fun x hx => bounds_i64 (hws x (List.mem_of_mem_take hx))⟩
    rcases Nat.eq_zero_or_pos len with h | h
    · left
      simp [h]
    · have h0c := hcell 0 (by omega)
      refine .inr ⟨a, rfl, ?_, fun j u hu => ?_⟩
      · have := cell_in h0c
        rwa [blkAdd] at this
      · rw [List.getElem?_map] at hu
        obtain ⟨x, hx1, hx2⟩ := Option.map_eq_some_iff.1 hu
        rw [← hx2]
        have hjl : j < len := by
          have := (List.getElem?_eq_some_iff.1 hx1).1
          rw [List.length_take] at this
          omega
        rw [hcell j (by omega)]
        rw [List.getElem?_take_of_lt hjl] at hx1
        rw [List.getD, hx1]
        rfl

set_option maxRecDepth 100000 in
theorem lifted (os : Os) (started : os.Started) (H : Type) (enc : TypeId × Value → H) :
    ReturnsInHanded {} Try.checked os 3 .any (Rows.traitsChecksSpec.pre6 enc Try.prog Try.f3 Rows.traitsChecksRow.domain false) (Rows.traitsChecksSpec.post enc Try.prog Try.f3 false true false false) := by
  refine returnsInHanded_of_change_sized (C := Try.checked) own started (by kernel_rfl) Try.func3
    (ChangeSpec.witness6 (enc := enc) (C := Try.checked) false ⟨#[], #[.slice none 0 0, .agg #[.int .i64 0, .string ⟨#[]⟩, .int .i64 0, .slice none 0 0], .slice none 0 0], []⟩ 8 (by kernel_rfl) (by kernel_rfl) (by kernel_rfl) (by kernel_rfl)) ?_
  intro W base args ds gs before hval0 hW hcnd hsz _
  have hval : ∀ (j : Nat) t v, Try.f3.params[j]? = some t → args[j]? = some v → Value.okWide Try.prog W .any base t v := hval0
  have hW' := hW
  obtain ⟨p, q, hA0, hV, rfl, hfz, hnd⟩ := hW
  have hA : DataW.TrodAll enc Try.prog W 0 (fun _ => true) true Try.f3.params.toList args.toList ds p := hA0
  rw [Try.params3] at hA hval
  obtain ⟨v0, v1, v2, d0, d1, d2, p0, p1, p2, hargs, rfl, rfl, h0, h1, h2⟩ := trodAll_three hA
  obtain rfl : args = #[v0, v1, v2] := by cases args; simp_all
  obtain ⟨rfl, rfl⟩ := trodVars_none hV
  have hlt : ∀ x ∈ p0 ++ (p1 ++ p2), x.block < W.heap.size := fun x hx => hW'.lt x (by simpa using hx)
  have h0k := h0
  have h1k := h1
  have h2k := h2
  obtain ⟨a0, len0, cap0, rfl⟩ := okWide_slice Try.underlying22 (hval 0 22 v0 rfl rfl)
  obtain ⟨cs1, rfl, _⟩ := okWide_struct Try.underlying25 (hval 1 25 v1 rfl rfl)
  obtain ⟨a2, len2, cap2, rfl⟩ := okWide_slice Try.underlying26 (hval 2 26 v2 rfl rfl)
  have fin : ∀ (e : Ending) (W' : World), (e = .returned (.bool true) ∧ Below W.heap.size W W') → ∃ v, e = .returned v ∧ Rows.traitsChecksSpec.post enc Try.prog Try.f3 false true false false W #[.slice a0 len0 cap0, .agg cs1, .slice a2 len2 cap2] v W' := by
    rintro e W' ⟨rfl, hb⟩
    refine ⟨_, rfl, _, _, _, [], p0 ++ (p1 ++ ((p2 ++ []))), [], hW', ?_, ?_, rfl, hb.frame _, (fun h => by cases h)⟩
    · exact trodAll_mk1 (shut_bool Try.underlying4 _)
    · exact (trodAll_cons_mk (Below.trod laidOut (by kernel_rfl) (of_decide_eq_true (by kernel_rfl)) h0k hb (fun x hx => hlt x (by simp [hx]))) (trodAll_cons_mk (Below.trod laidOut (by kernel_rfl) (of_decide_eq_true (by kernel_rfl)) h1k hb (fun x hx => hlt x (by simp [hx]))) (trodAll_cons_mk (Below.trod laidOut (by kernel_rfl) (of_decide_eq_true (by kernel_rfl)) h2k hb (fun x hx => hlt x (by simp [hx]))) trodAll_mk0)))
  have hwt : ∀ (j : Nat) (t : TypeId) (d : DataW H), [22, 25, 26][j]? = some t → [d0, d1, d2][j]? = some d → ∀ n ∈ DataW.weights Try.prog t d, n ≤ reachBytes := fun j t d ht hd n hn => by
    have hj : j < 3 := (List.getElem?_eq_some_iff.1 ht).1
    have h1 := List.all_eq_true.1 hsz n (DataW.weights_mem_each (j := j) (t := t) (d := d) ?_ ?_ n hn)
    · simpa using h1
    · rw [Try.params3, List.getElem?_append_left (by simp; omega)]
      obtain rfl | rfl | rfl : j = 0 ∨ j = 1 ∨ j = 2 := by omega
      · exact ht
      · exact ht
      · exact ht
    · obtain rfl | rfl | rfl : j = 0 ∨ j = 1 ∨ j = 2 := by omega
      · exact hd
      · exact hd
      · exact hd
  obtain ⟨fuel0, hf0⟩ := h0
  obtain ⟨xs, hxl, hrow, hfit⟩ := ints_in hf0
  subst hxl
  obtain ⟨fuel1, hf1⟩ := h1
  obtain ⟨⟨⟨rk, rx, ra, rks⟩, rv⟩, e1, hT⟩ := tree_near enc W fuel1 _ _ hf1 (hwt 1 _ _ rfl rfl)
  obtain ⟨RA, rc, rps, rfl, _, _, _, _, _, _, _, _, hR⟩ := hT.open_
  obtain rfl : cs1 = #[.int .i64 rk, sv rx, .int .i64 ra, .slice RA rps.length rc] := by apply Array.ext'; exact e1
  obtain ⟨fuel2, hf2⟩ := h2
  obtain ⟨L, lc, l, qs, e2, hK⟩ := knowns_near hf2 (hwt 2 _ _ rfl rfl)
  have e2 : (Value.slice a2 len2 cap2) = .slice L l.length lc := by simpa [Value.cells] using e2
  obtain ⟨rfl, rfl, rfl⟩ := Value.slice.inj e2
  exact (law_all xs a0 cap0 rk ra rx rps RA _ rc _ l qs W hrow hfit hR hK).mono fin

theorem said : Rows.TraitsChecksSaid :=
  OpenClaim.holds_of_wide 3 Try.f3 rfl rfl rfl rfl rfl rfl rfl ⟨rfl, rfl, rfl, rfl, rfl⟩ rfl rfl rfl rfl rfl (by kernel_rfl) Try.func3 (by kernel_rfl)
    (of_decide_eq_true (by kernel_rfl)) (by unfold Func.isWrapper; first | (rw [if_pos (by decide +kernel)]; kernel_rfl) | (rw [if_neg (by decide +kernel)]; exact ⟨rfl, rfl⟩))
    (fun os started H enc _ => lifted os started H enc)
end Go.Proofs.Ytiijlecidepneaa
