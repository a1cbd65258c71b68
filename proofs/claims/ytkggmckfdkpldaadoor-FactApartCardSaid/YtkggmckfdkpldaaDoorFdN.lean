/-
  Plain sizes: how long the strings of codes are, and how many things a text reads as. No program is in sight.
  Conditions: those of each theorem.
-/
import Derived.Test.YtkggmckfdkpldaaDoorFdG
namespace Go.Proofs.YtkggmckfdkpldaaDoor

theorem itoa_le {z : Int} (h : I64f z) : (Lib.itoa z).length ≤ 21 := Lib.itoa_length_le z h.1 h.2
theorem pack_le {b : Nat} (hb : b ≤ 1000000000) : ∀ {l : List (List UInt8)}, (∀ a ∈ l, a.length ≤ b) → (pack l).length ≤ l.length * (b + 22)
  | [], _ => by simp [pack]
  | a :: l, h => by
    have h1 := pack_le hb (l := l) fun x hx => h x (by simp [hx])
    have h2 := h a (by simp)
    have h4 := Lib.itoa_length_le (a.length : Int) (by omega) (by omega)
    rw [Lib.itoa_nonneg] at h4
    rw [pack_cons, List.length_append, pk_length, List.length_cons, Nat.add_mul]
    omega
theorem nums_small {l : List Int} {k : Nat} (hk : l.length ≤ k) (hf : ∀ x ∈ l, I64f x) : (numsS l).length ≤ k * 43 := by
  have h := pack_le (b := 21) (by decide) (l := l.map Lib.itoa) fun a ha => by
    obtain ⟨z, hz, rfl⟩ := List.mem_map.1 ha
    exact itoa_le (hf z hz)
  rw [List.length_map] at h
  have := Nat.mul_le_mul_right 43 hk
  unfold numsS
  omega
theorem op_small {o : OpF} (h : OpBig o) : (opS o).length ≤ 1164 := by
  have h5 := nums_small h.few h.fits.2.2.2.2
  have := pack_le (b := 172) (by decide) (l := [Lib.itoa o.kind, Lib.itoa o.a, Lib.itoa o.b, Lib.itoa o.c, numsS o.list, o.sym]) fun a ha => by
    simp only [List.mem_cons, List.not_mem_nil, or_false] at ha
    rcases ha with rfl | rfl | rfl | rfl | rfl | rfl
    · have := itoa_le h.fits.1; omega
    · have := itoa_le h.fits.2.1; omega
    · have := itoa_le h.fits.2.2.1; omega
    · have := itoa_le h.fits.2.2.2.1; omega
    · omega
    · have := h.sym; omega
  unfold opS
  simpa using this
theorem cd_small {c : CdF} (h : CdBig c) : (cdS c).length ≤ 1000000 := by
  have h1 := pack_le (b := 1164) (by decide) (l := c.ops.map opS) fun a ha => by
    obtain ⟨o, ho, rfl⟩ := List.mem_map.1 ha
    exact op_small (h.ops o ho)
  rw [List.length_map] at h1
  have h2 := Nat.mul_le_mul_right (1164 + 22) h.few
  have := pack_le (b := 20000) (by decide) (l := [Lib.itoa c.params, Lib.itoa c.regs, pack (c.ops.map opS)]) fun a ha => by
    simp only [List.mem_cons, List.not_mem_nil, or_false] at ha
    rcases ha with rfl | rfl | rfl
    · have := itoa_le h.params; omega
    · have := itoa_le h.regs; omega
    · omega
  unfold cdS
  have h3 : [Lib.itoa c.params, Lib.itoa c.regs, pack (c.ops.map opS)].length = 3 := rfl
  rw [h3] at this
  omega
theorem CdBig.fits {c : CdF} (h : CdBig c) : c.fits := ⟨h.params, h.regs, fun o ho => (h.ops o ho).fits⟩
theorem CdOk.big {c : CdF} (h : CdOk c) : CdBig c := ⟨by have := h.params; unfold I64f; omega, by have := h.regs; unfold I64f; omega, h.few, fun o ho => (h.ops o ho).big⟩
theorem rdList_len {α : Type} (f : List UInt8 → α × Bool) (s : List UInt8) : (rdList f s).1.length ≤ s.length := by
  unfold rdList
  split
  · rcases unpk_cases s with ⟨L, rfl, hu⟩ | ⟨_, hu⟩
    · rw [hu, List.length_map]
      exact pack_count L
    · rw [hu]
      simp
  · simp
theorem rdList_mem {α : Type} {f : List UInt8 → α × Bool} {s : List UInt8} {y : α} (h : y ∈ (rdList f s).1) : ∃ t, t.length ≤ s.length ∧ y = (f t).1 := by
  unfold rdList at h
  split at h
  · rcases unpk_cases s with ⟨L, rfl, hu⟩ | ⟨_, hu⟩
    · rw [hu] at h
      obtain ⟨t, ht, rfl⟩ := List.mem_map.1 h
      obtain ⟨k, hk⟩ := List.mem_iff_getElem?.1 ht
      exact ⟨t, pack_elem hk, rfl⟩
    · rw [hu] at h
      simp at h
  · simp at h
theorem opR_list (s : List UInt8) : (opR s).1.list.length ≤ s.length := by
  rcases unpk_cases s with ⟨L, rfl, _⟩ | ⟨hno, _⟩
  · by_cases h6 : L.length = 6
    · obtain ⟨k, a, b, c, l, y, rfl⟩ := six h6
      rw [opR_pack]
      split
      · have := rdList_len numv l
        have := pack_elem (ls := [k, a, b, c, l, y]) (k := 4) rfl
        simp only
        omega
      · exact Nat.zero_le _
    · rw [opR_no fun L' e => by rw [← pack_inj _ _ e]; exact h6]
      exact Nat.zero_le _
  · rw [opR_no fun L e => (hno L e).elim]
    exact Nat.zero_le _
theorem cdR_small (s : List UInt8) : (cdR s).1.ops.length ≤ s.length ∧ ∀ o ∈ (cdR s).1.ops, o.list.length ≤ s.length := by
  rcases unpk_cases s with ⟨L, rfl, _⟩ | ⟨hno, _⟩
  · by_cases h3 : L.length = 3
    · obtain ⟨x0, x1, x2, rfl⟩ := three h3
      rw [cdR_pack]
      have h2 := pack_elem (ls := [x0, x1, x2]) (k := 2) rfl
      split
      · refine ⟨Nat.le_trans (rdList_len opR x2) h2, fun o ho => ?_⟩
        obtain ⟨t, ht, rfl⟩ := rdList_mem ho
        exact Nat.le_trans (opR_list t) (Nat.le_trans ht h2)
      · exact ⟨Nat.zero_le _, by simp [CdF.zero]⟩
    · rw [cdR_no fun L' e => by rw [← pack_inj _ _ e]; exact h3]
      exact ⟨Nat.zero_le _, by simp [CdF.zero]⟩
  · rw [cdR_no fun L e => (hno L e).elim]
    exact ⟨Nat.zero_le _, by simp [CdF.zero]⟩
end Go.Proofs.YtkggmckfdkpldaaDoor
