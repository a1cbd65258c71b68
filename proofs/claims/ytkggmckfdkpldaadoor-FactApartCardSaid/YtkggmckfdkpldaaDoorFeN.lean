/-
  Plain facts on made signatures: their names can be read again, their strings are short. No program is in sight.
  Conditions: those of each theorem.
-/
import Derived.Test.YtkggmckfdkpldaaDoorFeI
import Derived.Test.YtkggmckfdkpldaaDoorFeY
import Derived.Test.YtkggmckfdkpldaaDoorFdN
namespace Go.Proofs.YtkggmckfdkpldaaDoor

instance nmOkDec (n : List UInt8) : Decidable (NmOk n) := by unfold NmOk; exact inferInstance
theorem DTy.nice {d : Nat} {t : Ty} (h : DTy d t) : Nice t := by
  induction h with
  | mk d n ks hn hk h0 h ih =>
    have : ∀ n ∈ dnames, NmOk n := by decide
    exact .mk n ks (this n hn) ih
theorem prnL_le : ∀ (ks : List Ty) (c : UInt8) (b : Nat), (∀ a ∈ ks, (prn a).length ≤ b) → (prnL ks c).length ≤ ks.length * (b + 1)
  | [], _, _, _ => by simp [prnL]
  | a :: r, c, b, h => by
    have h1 := h a (by simp)
    have h2 := prnL_le r 44 b fun x hx => h x (by simp [hx])
    simp only [prnL, List.length_cons, List.length_append, Nat.add_mul]
    omega
theorem DTy.name {d : Nat} {n : List UInt8} {ks : List Ty} (h : DTy d (.mk n ks)) : n.length ≤ 6 ∧ ks.length ≤ 2 ∧ (d = 0 → ks = []) ∧ ∀ a ∈ ks, DTy (d - 1) a := by
  cases h with
  | mk _ _ _ hn hk h0 h =>
    have : ∀ n ∈ dnames, n.length ≤ 6 := by decide
    exact ⟨this n hn, hk, h0, h⟩
theorem prn_step {n : List UInt8} {ks : List Ty} {b : Nat} (hn : n.length ≤ 6) (hk : ks.length ≤ 2) (h : ∀ a ∈ ks, (prn a).length ≤ b) : (prn (.mk n ks)).length ≤ 2 * b + 9 := by
  have h1 := prnL_le ks 60 b h
  have h2 := Nat.mul_le_mul_right (b + 1) hk
  rw [prn]
  simp only [List.length_append]
  have h3 : (if ks = [] then ([] : List UInt8) else [62]).length ≤ 1 := by split <;> simp
  omega
theorem DTy.short {t : Ty} (h : DTy 2 t) : (prn t).length ≤ 100 := by
  obtain ⟨n, ks⟩ := t
  obtain ⟨h1, h2, _, h4⟩ := h.name
  have := prn_step (b := 27) h1 h2 fun a ha => by
    obtain ⟨n, ks⟩ := a
    obtain ⟨h1, h2, _, h4⟩ := (h4 _ ha).name
    have := prn_step (b := 9) h1 h2 fun a ha => by
      obtain ⟨n, ks⟩ := a
      obtain ⟨h1, h2, h3, h4⟩ := (h4 _ ha).name
      obtain rfl := h3 rfl
      have := prn_step (b := 0) h1 h2 fun a ha => by cases ha
      omega
    omega
  omega
theorem res_ok {t : Ty} (h : t = zeroT ∨ DTy 2 t) : TyOk t ∧ (prn t).length ≤ 100 := by
  rcases h with rfl | h
  · exact ⟨.inl rfl, by rw [prn_zero]; simp⟩
  · exact ⟨.inr h.nice, h.short⟩
theorem SgOk.fits {x : SgF} (h : SgOk x) : x.fits := ⟨⟨by have := h.kind; omega, by have := h.kind; omega⟩, fun t ht => .inr (h.al t ht).nice, (res_ok h.res).1⟩
theorem SgOk.few {x : SgF} (h : SgOk x) : SgFew x := ⟨by have := h.pn; omega, by have := h.nn; omega, by have := h.an; omega⟩
theorem SgOk.small {x : SgF} (h : SgOk x) : (sgS x).length ≤ 100000 := by
  have h1 := pack_le (b := 64) (by decide) (l := x.params.map parS) fun a ha => by
    obtain ⟨p, hp, rfl⟩ := List.mem_map.1 ha
    have := pack_le (b := 10) (by decide) (l := [p.1, p.2]) fun a ha => by
      simp only [List.mem_cons, List.not_mem_nil, or_false] at ha
      rcases ha with rfl | rfl
      · exact (h.pl p hp).1
      · exact (h.pl p hp).2
    exact this
  rw [List.length_map] at h1
  have h1' := Nat.mul_le_mul_right (64 + 22) h.pn
  have h2 := pack_le (b := 10) (by decide) (l := x.names) h.nl
  have h2' := Nat.mul_le_mul_right (10 + 22) h.nn
  have h3 := pack_le (b := 100) (by decide) (l := x.args.map prn) fun a ha => by
    obtain ⟨t, ht, rfl⟩ := List.mem_map.1 ha
    exact (h.al t ht).short
  rw [List.length_map] at h3
  have h3' := Nat.mul_le_mul_right (100 + 22) h.an
  have := pack_le (b := 1000) (by decide) (l := [Lib.itoa x.kind, parsS x.params, pack x.names, tysS x.args, prn x.result, x.trt]) fun a ha => by
    simp only [List.mem_cons, List.not_mem_nil, or_false] at ha
    rcases ha with rfl | rfl | rfl | rfl | rfl | rfl
    · have := itoa_le h.fits.kind; omega
    · unfold parsS; omega
    · omega
    · unfold tysS; omega
    · have := (res_ok h.res).2; omega
    · have := h.trt; omega
  have h6 : [Lib.itoa x.kind, parsS x.params, pack x.names, tysS x.args, prn x.result, x.trt].length = 6 := rfl
  rw [h6] at this
  unfold sgS
  omega
end Go.Proofs.YtkggmckfdkpldaaDoor
