/-
  The walk of ref11.kid.
  Conditions: the argument reads as a tree.
-/
import Derived.Test.YtiijlecidepneaaSigA
namespace Go.Proofs.Ytiijlecidepneaa
open Go.RowKit

set_option maxHeartbeats 1600000 in
set_option maxRecDepth 100000 in
theorem rkid_any (p : Tr × Value) (k : Nat) (w : World) (hk : k ≤ 3518437208883) (h : TrIs w (Lt w.heap.size) p.1 p.2) : Calls Try.prog 37 #[trV p, .int .i64 (k : Int)] w (KidRes (kidT p.1 k) w) := by
  have hks : kidT p.1 k = (p.1.kids[k]?).getD trZ.1 := rfl
  obtain ⟨A, c, ps, hv, hkids, _, _, _, hz, hc, hcm, _, hT⟩ := h.open_
  obtain ⟨⟨pk, px, pa, pks⟩, pv⟩ := p
  simp only [Tr.kind, Tr.text, Tr.at_, Tr.kids] at hv hkids hks ⊢
  subst hv
  obtain ⟨n, hn⟩ : ∃ n, n = ps.length := ⟨_, rfl⟩
  rw [← hn] at hz hc ⊢
  show Calls _ _ #[.agg #[.int .i64 pk, sv px, .int .i64 pa, .slice A n c], .int .i64 (k : Int)] _ _
  have HN := Lib.hid hn
  have HKS := Lib.hid hks
  clear h hks hn
  by_cases hlt : k < n
  · obtain ⟨q, hq⟩ : ∃ q, ps[k]? = some q := ⟨_, List.getElem?_eq_getElem (by rw [← HN.out]; exact hlt)⟩
    have hkt : kidT (.mk pk px pa pks) k = q.1 := by rw [HKS.out, hkids, List.getElem?_map, hq]; rfl
    have hik : (0 : Int) ≤ (k : Int) ∧ (k : Int) < (n : Int) := ⟨by omega, by omega⟩
    have hge : decide ((0 : Int) ≤ (k : Int)) = true := by simp
    have hqw := hT.each k q hq
    obtain ⟨QA, qc, qs, hqv, _⟩ := hqw.open_
    have hb0 := ((Below.refl w.heap.size w).alloc (Nat.le_refl _) (.cells #[.int .i64 pk, sv px, .int .i64 pa, .slice A n c] 25)).alloc (by simp) trB0
    obtain ⟨ad, hA, _, a0, a1, a2, a3⟩ := tr_at (hT.below hb0).row hq
    obtain ⟨⟨qk, qx, qa, qks⟩, qv⟩ := q
    simp only [Tr.kind, Tr.text, Tr.at_] at a0 a1 a2 a3 hqv hqw
    subst hqv
    obtain ⟨m, hm⟩ : ∃ m, m = qs.length := ⟨_, rfl⟩
    rw [← hm] at a3 hqw
    have hb3 := ((Below.refl w.heap.size w).alloc (Nat.le_refl _) (.cells #[.int .i64 pk, sv px, .int .i64 pa, .slice A n c] 25)).alloc (by simp) (.cells #[.int .i64 qk, sv qx, .int .i64 qa, .slice QA m qc] 25)
    have hx3 := (alloc2 w (.cells #[.int .i64 pk, sv px, .int .i64 pa, .slice A n c] 25) (.cells #[.int .i64 qk, sv qx, .int .i64 qa, .slice QA m qc] 25)).2
    rw [hA] at a0 a1 a2 a3 hb3 hx3 ⊢
    obtain ⟨w3, hw3⟩ : ∃ w3, w3 = (w.alloc (.cells #[.int .i64 pk, sv px, .int .i64 pa, .slice (some ad) n c] 25)).alloc (.cells #[.int .i64 qk, sv qx, .int .i64 qa, .slice QA m qc] 25) := ⟨_, rfl⟩
    rw [← hw3] at hb3 hx3
    have HRES : Hid (KidRes (kidT (.mk pk px pa pks) k) w (.returned (.agg #[.int .i64 qk, sv qx, .int .i64 qa, .slice QA m qc])) w3) := Lib.hid ⟨(.mk qk qx qa qks, .slice QA m qc), rfl, hkt.symm, hqw.under hb3, hb3⟩
    have q0 : w3.cell? ⟨w.heap.size + 1, 0, none⟩ = some (.int .i64 qk) := (Lib.cell_of_heap hx3 0).trans rfl
    have q1 : w3.cell? ⟨w.heap.size + 1, 1, none⟩ = some (sv qx) := (Lib.cell_of_heap hx3 1).trans rfl
    have q2 : w3.cell? ⟨w.heap.size + 1, 2, none⟩ = some (.int .i64 qa) := (Lib.cell_of_heap hx3 2).trans rfl
    have q3 : w3.cell? ⟨w.heap.size + 1, 3, none⟩ = some (.slice QA m qc) := (Lib.cell_of_heap hx3 3).trans rfl
    have HQ := Lib.hid (And.intro q0 (And.intro q1 (And.intro q2 q3)))
    have HW3 := Lib.hid hw3
    clear hA hqw hm hw3 hx3 hb3 hkt hq hT hkids hcm q0 q1 q2 q3 hb0
    go_enter Try.func37, Try.ntmps37
    go_wp2_with fail
    rw [← HW3.out]
    obtain ⟨q0, q1, q2, q3⟩ := HQ.out
    refine bodyPost_ret (v := .agg #[.int .i64 qk, sv qx, .int .i64 qa, .slice QA m qc]) ?_ rfl HRES.out
    clear HRES HW3 HQ
    simp [results, Try.results37, go_sem, q0, q1, q2, q3]
  · have hkt : kidT (.mk pk px pa pks) k = trZ.1 := by rw [HKS.out, hkids, List.getElem?_eq_none (by rw [List.length_map, ← HN.out]; omega)]; rfl
    have hq0 : decide ((k : Int) < (n : Int)) = false := by simp; omega
    have hge : decide ((0 : Int) ≤ (k : Int)) = true := by simp
    have hb3 := ((Below.refl w.heap.size w).alloc (Nat.le_refl _) (.cells #[.int .i64 pk, sv px, .int .i64 pa, .slice A n c] 25)).alloc (by simp) trB0
    have hx3 := (alloc2 w (.cells #[.int .i64 pk, sv px, .int .i64 pa, .slice A n c] 25) trB0).2
    obtain ⟨w3, hw3⟩ : ∃ w3, w3 = (w.alloc (.cells #[.int .i64 pk, sv px, .int .i64 pa, .slice A n c] 25)).alloc trB0 := ⟨_, rfl⟩
    rw [← hw3] at hb3 hx3
    have HRES : Hid (KidRes (kidT (.mk pk px pa pks) k) w (.returned (.agg #[.int .i64 0, .string ⟨#[]⟩, .int .i64 0, .slice none 0 0])) w3) := Lib.hid ⟨trZ, rfl, hkt.symm, trZ_is _ _, hb3⟩
    have q0 : w3.cell? ⟨w.heap.size + 1, 0, none⟩ = some (.int .i64 0) := (Lib.cell_of_heap hx3 0).trans rfl
    have q1 : w3.cell? ⟨w.heap.size + 1, 1, none⟩ = some (.string ⟨#[]⟩) := (Lib.cell_of_heap hx3 1).trans rfl
    have q2 : w3.cell? ⟨w.heap.size + 1, 2, none⟩ = some (.int .i64 0) := (Lib.cell_of_heap hx3 2).trans rfl
    have q3 : w3.cell? ⟨w.heap.size + 1, 3, none⟩ = some (.slice none 0 0) := (Lib.cell_of_heap hx3 3).trans rfl
    have HQ := Lib.hid (And.intro q0 (And.intro q1 (And.intro q2 q3)))
    have HW3 := Lib.hid hw3
    clear hw3 hx3 hb3 hkt hT hkids hcm q0 q1 q2 q3
    go_enter Try.func37, Try.ntmps37
    go_wp2_with fail
    rw [← HW3.out]
    obtain ⟨q0, q1, q2, q3⟩ := HQ.out
    refine bodyPost_ret (v := .agg #[.int .i64 0, .string ⟨#[]⟩, .int .i64 0, .slice none 0 0]) ?_ rfl HRES.out
    clear HRES HW3 HQ
    simp [results, Try.results37, go_sem, q0, q1, q2, q3]
end Go.Proofs.Ytiijlecidepneaa
