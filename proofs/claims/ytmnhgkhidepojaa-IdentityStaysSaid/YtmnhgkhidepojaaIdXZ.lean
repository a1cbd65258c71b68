/-
  IdentityStays: definitions that stay keep their numbers, no number is given twice, and the same update again changes nothing: the given statement, proved.
  Conditions: none beyond the given row's own.
-/
import Derived.Test.YtmnhgkhidepojaaIdX
import Derived.ProofKit
import Derived.OpenShut
namespace Go.Proofs.Ytmnhgkhidepojaa
open Go.ChangeShapes Go.WideShapes Go.ChangeAt Go.RowKit

theorem own : ownKnob Try.prog.godebug = none := by kernel_rfl
theorem laidOut : laidOutB Try.prog = true := by kernel_rfl
theorem cellsI : Try.prog.cellsOf 3 = 1 := by kernel_rfl

theorem lt_cell {w : World} {a : Addr} {v : Value} (h : w.cell? a = some v) : a.block < w.heap.size := by
  rcases Nat.lt_or_ge a.block w.heap.size with h1 | h1
  · exact h1
  · unfold World.cell? at h
    rw [Array.getElem?_eq_none h1] at h
    simp at h

set_option maxRecDepth 100000 in
theorem lifted (os : Os) (started : os.Started) (H : Type) (enc : TypeId × Value → H) :
    ReturnsInHanded {} Try.checked os 4 .any (Rows.identityStaysSpec.pre6 enc Try.prog Try.f4 Rows.identityStaysRow.domain false) (Rows.identityStaysSpec.post enc Try.prog Try.f4 false true false false) := by
  refine returnsInHanded_of_change (C := Try.checked) own started (by kernel_rfl) Try.func4
    (ChangeSpec.witness6 (enc := enc) (C := Try.checked) false ⟨#[], #[.slice none 0 0], []⟩ 8 (by kernel_rfl) (by kernel_rfl) (by kernel_rfl) (by kernel_rfl)) ?_
  intro W base args ds gs before hval0 hW hcnd _
  have hval : ∀ (j : Nat) t v, Try.f4.params[j]? = some t → args[j]? = some v → Value.okWide Try.prog W .any base t v := hval0
  have hW' := hW
  obtain ⟨p, q, hA0, hV, rfl, hfz, hnd⟩ := hW
  have hA : DataW.TrodAll enc Try.prog W 0 (fun _ => true) true Try.f4.params.toList args.toList ds p := hA0
  rw [Try.params4] at hA hval
  obtain ⟨v0, d0, hargs, rfl, h0⟩ := trodAll_one hA
  obtain rfl : args = #[v0] := by cases args; simp_all
  obtain ⟨rfl, rfl⟩ := trodVars_none hV
  have hlt : ∀ x ∈ p, x.block < W.heap.size := fun x hx => hW'.lt x (by simpa using hx)
  have h0k := h0
  obtain ⟨a0, len, cap, rfl⟩ := okWide_slice Try.underlying22 (hval 0 22 v0 rfl rfl)
  have fin : ∀ (e : Ending) (W' : World), (e = .returned (.bool true) ∧ Below W.heap.size W W') → ∃ v, e = .returned v ∧ Rows.identityStaysSpec.post enc Try.prog Try.f4 false true false false W #[.slice a0 len cap] v W' := by
    rintro e W' ⟨rfl, hb⟩
    refine ⟨_, rfl, _, _, _, [], p, [], hW', ?_, ?_, rfl, hb.frame _, (fun h => by cases h)⟩
    · exact trodAll_mk1 (shut_bool Try.underlying4 _)
    · exact trodAll_mk1 (Below.trod laidOut (by kernel_rfl) (of_decide_eq_true (by kernel_rfl)) h0k hb hlt)
  obtain ⟨fuel, hf⟩ := h0
  rcases open_ints Try.underlying22 Try.underlying3 cellsI hf with ⟨hcs, hx⟩ | ⟨a, len', cap', zs, hcs, _, hl, hm, hz, hx, hcell, hws⟩
  · simp [Value.cells] at hcs
    obtain ⟨rfl, rfl, rfl⟩ := hcs
    exact (stays_all [] none 0 W (Row.nil _ _ _) (fun x hx => by simp at hx)).mono fin
  · simp [Value.cells] at hcs
    obtain ⟨rfl, rfl, rfl⟩ := hcs
    simp only [if_true] at hz
    have hlen : (zs.take len).length = len := by rw [List.length_take]; omega
    have hw := stays_all (zs.take len) (some a) cap W ?_ ?_
    · rw [hlen] at hw
      exact hw.mono fin
    · rcases Nat.eq_zero_or_pos len with h | h
      · left
        simp [h]
      · have h0c := hcell 0 (by omega)
        refine .inr ⟨a, rfl, ?_, fun j u hu => ?_⟩
        · have := lt_cell h0c
          rwa [blkAdd] at this
        · rw [List.getElem?_map] at hu
          obtain ⟨x, hx1, hx2⟩ := Option.map_eq_some_iff.1 hu
          rw [← hx2]
          have hjl : j < len := by
            have := (List.getElem?_eq_some_iff.1 hx1).1
            rw [List.length_take] at this
            omega
          rw [hcell j (by omega)]
          rw [List.getElem?_take_of_lt hjl] at hx1
          rw [List.getD, hx1]
          rfl
    · intro x hx
      exact bounds_i64 (hws x (List.mem_of_mem_take hx))

theorem said : Rows.IdentityStaysSaid :=
  OpenClaim.holds_of_wide 4 Try.f4 rfl rfl rfl rfl rfl rfl rfl ⟨rfl, rfl, rfl, rfl, rfl⟩ rfl rfl rfl rfl rfl (by kernel_rfl) Try.func4 (by kernel_rfl)
    (of_decide_eq_true (by kernel_rfl)) (by unfold Func.isWrapper; first | (rw [if_pos (by decide +kernel)]; kernel_rfl) | (rw [if_neg (by decide +kernel)]; exact ⟨rfl, rfl⟩))
    (fun os started H enc _ => lifted os started H enc)
end Go.Proofs.Ytmnhgkhidepojaa
