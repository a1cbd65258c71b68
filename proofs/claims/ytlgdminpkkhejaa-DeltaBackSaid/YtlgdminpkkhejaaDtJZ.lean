/-
  DeltaBack: the given statement, proved.
  Conditions: none beyond the given row's own.
-/
import Derived.Test.YtlgdminpkkhejaaDtJ
import Derived.Test.YtlgdminpkkhejaaBin
import Derived.ProofKit
import Derived.OpenShut
namespace Go.Proofs.Ytlgdminpkkhejaa
open Go.ChangeShapes Go.WideShapes Go.ChangeAt Go.RowKit

theorem own : ownKnob Try.prog.godebug = none := by kernel_rfl
theorem laidOut : laidOutB Try.prog = true := by kernel_rfl
theorem cellsI : Try.prog.cellsOf 3 = 1 := by kernel_rfl
theorem lt_cell {w : World} {a : Addr} {v : Value} (h : w.cell? a = some v) : a.block < w.heap.size := by
  rcases Nat.lt_or_ge a.block w.heap.size with h1 | h1
  · exact h1
  · unfold World.cell? at h
    rw [Array.getElem?_eq_none h1] at h
    simp at h

/-- Ints that came in. -/
theorem ints_in {H : Type} {enc : TypeId × Value → H} {W : World} {a0 : Option Addr} {len cap fuel : Nat} {x : DataW H × List MemPlace} (hf : DataW.trod enc Try.prog W 0 (fun _ => true) true fuel 26 (Value.slice a0 len cap).cells.toList = some x) :
    ∃ xs : List Int, xs.length = len ∧ Row W (Lt W.heap.size) a0 (xs.map (Value.int .i64)) ∧ ∀ z ∈ xs, -9223372036854775808 ≤ z ∧ z ≤ 9223372036854775807 := by
  rcases open_ints Try.underlying26 Try.underlying3 cellsI hf with ⟨hcs, hx⟩ | ⟨a, len', cap', zs, hcs, _, hl, hm, hz, hx, hcell, hws⟩
  · simp [Value.cells] at hcs
    obtain ⟨rfl, rfl, rfl⟩ := hcs
    exact ⟨[], rfl, Row.nil _ _ _, fun x hx => by simp at hx⟩
  · simp [Value.cells] at hcs
    obtain ⟨rfl, rfl, rfl⟩ := hcs
    simp only [if_true] at hz
    refine ⟨zs.take len, by rw [List.length_take]; omega, ?_, fun x hx => bounds_i64 (hws x (List.mem_of_mem_take hx))⟩
    rcases Nat.eq_zero_or_pos len with h | h
    · left
      simp [h]
    · have h0c := hcell 0 (by omega)
      refine .inr ⟨a, rfl, ?_, fun j u hu => ?_⟩
      · have := lt_cell h0c
        rwa [blkAdd] at this
      · rw [List.getElem?_map] at hu
        obtain ⟨x, hx1, hx2⟩ := Option.map_eq_some_iff.1 hu
        rw [← hx2]
        have hjl : j < len := by
          have := (List.getElem?_eq_some_iff.1 hx1).1
          rw [List.length_take] at this
          omega
        rw [hcell j (by omega)]
        rw [List.getElem?_take_of_lt hjl] at hx1
        rw [List.getD, hx1]
        rfl

theorem three_of {α : Type} : ∀ {l : List α}, l.length = 3 → ∃ u v x, l = [u, v, x]
  | [u, v, x], _ => ⟨u, v, x, rfl⟩
/-- A message that came in. -/
theorem msg_in {H : Type} {enc : TypeId × Value → H} {W : World} {n : Nat} {cs : List Value} {y : DataW H × List MemPlace} (h : DataW.trod enc Try.prog W 0 (fun _ => true) true n 40 cs = some y) :
    ∃ z : Msg, cs = msC z ∧ True ∧ 0 ≤ Rows.uptoBulk y.1 := by
  obtain ⟨xs, n, rfl, rfl, hcl, hxl, hf⟩ := DataW.trod_struct Try.underlying40 h
  rw [show Try.prog.cellsOf 40 = 3 by kernel_rfl] at hcl
  obtain ⟨u, v, x, rfl⟩ := three_of hcl
  obtain ⟨y0, y1, y2, rfl⟩ := three_of (hxl.trans rfl)
  have h0 := hf 0 _ rfl
  have h1 := hf 1 _ rfl
  have h2 := hf 2 _ rfl
  change DataW.trod enc Try.prog W 0 (fun _ => true) true n 3 (([u, v, x].drop 0).take (Try.prog.cellsOf 3)) = [y0, y1, y2][0]? at h0
  change DataW.trod enc Try.prog W 0 (fun _ => true) true n 3 (([u, v, x].drop 1).take (Try.prog.cellsOf 3)) = [y0, y1, y2][1]? at h1
  change DataW.trod enc Try.prog W 0 (fun _ => true) true n 9 (([u, v, x].drop 2).take (Try.prog.cellsOf 9)) = [y0, y1, y2][2]? at h2
  rw [show Try.prog.cellsOf 3 = 1 by kernel_rfl] at h0 h1
  rw [show Try.prog.cellsOf 9 = 1 by kernel_rfl] at h2
  obtain ⟨n0, e0, _⟩ := DataW.trod_int (x := y0) Try.underlying3 h0
  obtain ⟨n1, e1, _⟩ := DataW.trod_int (x := y1) Try.underlying3 h1
  obtain ⟨s, e2, _, _⟩ := str_in (y := y2) h2
  obtain rfl : u = .int .i64 n0 := by simpa using e0
  obtain rfl : v = .int .i64 n1 := by simpa using e1
  obtain rfl : x = sv s := by simpa using e2
  exact ⟨(n0, n1, s), rfl, trivial, Nat.zero_le _⟩
/-- Messages that came in. -/
theorem msgs_in {H : Type} {enc : TypeId × Value → H} {W : World} {a0 : Option Addr} {len cap fuel : Nat} {x : DataW H × List MemPlace} (h : DataW.trod enc Try.prog W 0 (fun _ => true) true fuel 22 [Value.slice a0 len cap] = some x) :
    ∃ l : List Msg, SlM W (.slice a0 len cap) l := by
  have hn : a0 = none → cap = 0 := fun e => by
    rcases DataW.trod_slice Try.underlying22 h with ⟨e1, _⟩ | ⟨a, len', cap', _, _, _, _, e1, _⟩
    · have e1 : a0 = none ∧ len = 0 ∧ cap = 0 := by simpa using e1
      exact e1.2.2
    · have e1 : a0 = some a ∧ len = len' ∧ cap = cap' := by simpa using e1
      rw [e] at e1
      cases e1.1
  obtain ⟨xs, rfl, hc, _, hr, _, _⟩ := slice_in msC (s := 3) msC_len (fun _ => 0) (fun _ => True) Try.underlying22 (by kernel_rfl) (by decide) h fun n cs y hy => msg_in hy
  exact ⟨xs, a0, cap, rfl, hn, hc, hr⟩

set_option maxRecDepth 100000 in
theorem lifted (os : Os) (started : os.Started) (H : Type) (enc : TypeId × Value → H) :
    ReturnsInHanded {} Try.checked os 4 .any (Rows.deltaBackSpec.pre6 enc Try.prog Try.f4 Rows.deltaBackRow.domain false) (Rows.deltaBackSpec.post enc Try.prog Try.f4 false true false false) := by
  refine returnsInHanded_of_change (C := Try.checked) own started (by kernel_rfl) Try.func4
    (ChangeSpec.witness6 (enc := enc) (C := Try.checked) false ⟨#[], #[.slice none 0 0, .slice none 0 0, .slice none 0 0, .int .i64 0], []⟩ 8 (by kernel_rfl) (by kernel_rfl) (by kernel_rfl) (by kernel_rfl)) ?_
  intro W base args ds gs before hval0 hW hcnd _
  have hval : ∀ (j : Nat) t v, Try.f4.params[j]? = some t → args[j]? = some v → Value.okWide Try.prog W .any base t v := hval0
  have hW' := hW
  obtain ⟨p, q, hA0, hV, rfl, hfz, hnd⟩ := hW
  have hA : DataW.TrodAll enc Try.prog W 0 (fun _ => true) true Try.f4.params.toList args.toList ds p := hA0
  rw [Try.params4] at hA hval
  obtain ⟨v0, v1, v2, v3, d0, d1, d2, d3, p0, p1, p2, p3, hargs, rfl, rfl, h0, h1, h2, h3⟩ := trodAll_four hA
  obtain rfl : args = #[v0, v1, v2, v3] := by cases args; simp_all
  obtain ⟨rfl, rfl⟩ := trodVars_none hV
  have h0k := h0
  have h1k := h1
  have h2k := h2
  have h3k := h3
  obtain ⟨a0, len0, cap0, rfl⟩ := okWide_slice Try.underlying22 (hval 0 22 v0 rfl rfl)
  obtain ⟨a1, len1, cap1, rfl⟩ := okWide_slice Try.underlying22 (hval 1 22 v1 rfl rfl)
  obtain ⟨a2, len2, cap2, rfl⟩ := okWide_slice Try.underlying26 (hval 2 26 v2 rfl rfl)
  obtain ⟨n3, rfl, rfl, rfl, wn3⟩ := open_int Try.underlying3 (hval 3 3 v3 rfl rfl) h3
  have hlt : ∀ x ∈ p0 ++ (p1 ++ p2), x.block < W.heap.size := fun x hx => hW'.lt x (by simpa using hx)
  have fin : ∀ (e : Ending) (W' : World), (e = .returned (.bool true) ∧ Below W.heap.size W W') → ∃ v, e = .returned v ∧ Rows.deltaBackSpec.post enc Try.prog Try.f4 false true false false W #[.slice a0 len0 cap0, .slice a1 len1 cap1, .slice a2 len2 cap2, .int .i64 n3] v W' := by
    rintro e W' ⟨rfl, hb⟩
    refine ⟨_, rfl, _, _, _, [], p0 ++ (p1 ++ (p2 ++ ([] ++ []))), [], hW', ?_, ?_, rfl, hb.frame _, (fun h => by cases h)⟩
    · exact trodAll_mk1 (shut_bool Try.underlying4 _)
    · exact (trodAll_cons_mk (Below.trod laidOut (by kernel_rfl) (of_decide_eq_true (by kernel_rfl)) h0k hb (fun x hx => hlt x (by simp [hx]))) (trodAll_cons_mk (Below.trod laidOut (by kernel_rfl) (of_decide_eq_true (by kernel_rfl)) h1k hb (fun x hx => hlt x (by simp [hx]))) (trodAll_cons_mk (Below.trod laidOut (by kernel_rfl) (of_decide_eq_true (by kernel_rfl)) h2k hb (fun x hx => hlt x (by simp [hx]))) (trodAll_cons_mk (Below.trod laidOut (by kernel_rfl) (of_decide_eq_true (by kernel_rfl)) h3k hb (fun x hx => by cases hx)) trodAll_mk0))))
  obtain ⟨fuel0, hf0⟩ := h0
  obtain ⟨raw, hr⟩ := msgs_in hf0
  obtain ⟨fuel1, hf1⟩ := h1
  obtain ⟨more, hm⟩ := msgs_in hf1
  obtain ⟨fuel2, hf2⟩ := h2
  obtain ⟨xs2, hxl2, hrow2, hfit2⟩ := ints_in hf2
  subst hxl2
  exact (law_back raw more _ _ xs2 a2 cap2 n3 W hr hm hrow2 hfit2 (bounds_i64 wn3)).mono fin

theorem said : Rows.DeltaBackSaid :=
  OpenClaim.holds_of_wide 4 Try.f4 rfl rfl rfl rfl rfl rfl rfl ⟨rfl, rfl, rfl, rfl, rfl⟩ rfl rfl rfl rfl rfl (by kernel_rfl) Try.func4 (by kernel_rfl)
    (of_decide_eq_true (by kernel_rfl)) (by unfold Func.isWrapper; first | (rw [if_pos (by decide +kernel)]; kernel_rfl) | (rw [if_neg (by decide +kernel)]; exact ⟨rfl, rfl⟩))
    (fun os started H enc _ => lifted os started H enc)
end Go.Proofs.Ytlgdminpkkhejaa
