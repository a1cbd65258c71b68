/-
  The walk of recompileref09.Size.
  Conditions: the argument reads as a type.
-/
import Derived.Test.YtndhglcdkegigaaDoorMatch
namespace Go.Proofs.YtndhglcdkegigaaDoor
open Go.RowKit

set_option maxHeartbeats 2000000 in
set_option maxRecDepth 100000 in
theorem refSize_any (t : Ty) : ∀ (u v : Value) (w : World), TyIs w (Lt w.heap.size) t u v → t.size ≤ 4000000 → Calls Tryd.prog 32 #[.agg #[u, v]] w fun e w' => e = .returned (.int .i64 (t.size : Int)) ∧ Below w.heap.size w w' := by
  induction t using Ty.ind with | h n ks ih => ?_
  intro u v w ht hsz
  obtain ⟨A, c, vs, rfl, rfl, hn, hz, hc1, hc2, hT⟩ := ht.open_
  simp only [Ty.name, Ty.args] at hn hz hc1 hT ⊢
  obtain ⟨m, hm⟩ : ∃ m, m = ks.length := ⟨_, rfl⟩
  rw [← hm]
  rw [← hm] at hz hc1
  have HM := Lib.hid hm
  have hss : ∀ j, 1 + sizeL (ks.take j) ≤ 4000000 := fun j => by
    have h1 : sizeL (ks.take j) ≤ sizeL ks := by
      have : ∀ (l : List Ty) (i : Nat), sizeL (l.take i) ≤ sizeL l := by
        intro l
        induction l with
        | nil => intro i; simp [sizeL]
        | cons a r ih => intro i; cases i <;> simp [sizeL]; have := ih ‹_›; omega
      exact this ks j
    simp only [Ty.size] at hsz
    omega
  have HSS := Lib.hid hss
  have IH := Lib.hid ih
  clear hm ht hss ih
  go_enter Tryd.func32, Tryd.ntmps32
  go_wp2_with fail
  go_loopw [3, 4] (fun sm i wr => ∃ k : Nat, k ≤ m ∧ i = .int .i64 k ∧ sm = .int .i64 (((1 + sizeL (ks.take k) : Nat)) : Int) ∧ wr.heap[w.heap.size]? = some (.cells #[sv n, .slice A m c] 30 (0, 0)) ∧ Below w.heap.size w wr) (fun _ i _ => m - (intOf i).toNat)
  case atStart => exact ⟨0, Nat.zero_le _, rfl, rfl, alloc1 _ _, (Below.refl _ _).alloc (Nat.le_refl _) _⟩
  case round =>
    obtain ⟨k, hk, rfl, rfl, hB, hb⟩ := hrel
    have c1 : wr.cell? ⟨w.heap.size, 1, none⟩ = some (.slice A m c) := (Lib.cell_of_heap hB _).trans rfl
    have hlb := lt_of_heap hB
    have HB := Lib.hid hB
    have hsk := HSS.out k
    clear hB
    by_cases hlt : k < m
    · have hki : k < ks.length := by rw [← HM.out]; exact hlt
      obtain ⟨ad, u, v, rfl, hS, e0, e1, hty⟩ := (hT.now (Nat.le_refl _) hb).at_ (List.getElem?_eq_getElem hki)
      obtain ⟨u, v, rfl, rfl⟩ := hty.shape
      have hsn := HSS.out (k + 1)
      have hst : sizeL (ks.take (k + 1)) = sizeL (ks.take k) + ks[k].size := by
        rw [List.take_succ_eq_append_getElem hki]
        have : ∀ (l : List Ty) (x : Ty), sizeL (l ++ [x]) = sizeL l + x.size := by
          intro l x
          induction l with
          | nil => simp [sizeL]
          | cons a r ih => simp [sizeL, ih]; omega
        exact this _ _
      rw [hst] at hsn
      have HST := Lib.hid hst
      have HCALL := Lib.hid (IH.out ks[k] (List.getElem_mem hki) _ _ wr hty (by omega))
      obtain ⟨z, hz'⟩ : ∃ z, z = ks[k].size := ⟨_, rfl⟩
      obtain ⟨y, hy⟩ : ∃ y, y = sizeL (ks.take k) := ⟨_, rfl⟩
      rw [← hz', ← hy] at hsn
      rw [← hy] at hsk ⊢
      have HZ := Lib.hid hz'
      have HY := Lib.hid hy
      clear hst hz' hy hty
      go_wp2_with fail
      refine HCALL.out.mono ?_
      rw [← HZ.out]
      rintro e w1 ⟨rfl, hb1⟩
      have HB1 := Lib.hid ((hb1.block _ hlb).trans HB.out)
      have HBB := Lib.hid (hb.trans (hb1.mono hb.size))
      clear hb1 c1
      go_wp2
      go_roundw
      case rel => exact ⟨k + 1, by omega, by go_num, by rw [HST.out, ← HY.out, ← HZ.out]; go_num, HB1.out, HBB.out⟩
      case measure => simp [intOf]; omega
    · obtain rfl : k = m := by omega
      have HFIN : Hid (1 + sizeL (ks.take k) = (Ty.mk n ks).size) := Lib.hid (by rw [List.take_of_length_le (by rw [← HM.out]; exact Nat.le_refl _)]; rfl)
      go_wp2
      go_ret
      exact ⟨by rw [HFIN.out]; rfl, hb⟩
end Go.Proofs.YtndhglcdkegigaaDoor
