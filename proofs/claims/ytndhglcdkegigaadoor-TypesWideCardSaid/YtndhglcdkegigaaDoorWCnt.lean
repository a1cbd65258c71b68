/-
  The walk of ref09.count: how many nodes a type has with a solution, with what is known.
  Conditions: names are good, all the way down; there is a rank.
-/
import Derived.Test.YtndhglcdkegigaaDoorWGet
import Derived.Test.YtndhglcdkegigaaDoorNod
namespace Go.Proofs.YtndhglcdkegigaaDoor
open Go.RowKit

def KAt (w : World) (kb : Nat) (K : List Int) : Prop := w.heap[kb]? = some (.cells (K.map (Value.int .i64)).toArray 3 (0, 0))
theorem KAt.lt {w : World} {kb : Nat} {K : List Int} (h : KAt w kb K) : kb < w.heap.size := lt_of_heap h
theorem KAt.cell {w : World} {kb : Nat} {K : List Int} (h : KAt w kb K) {k : Nat} {z : Int} (hz : K[k]? = some z) : w.cell? ⟨kb, k, none⟩ = some (.int .i64 z) :=
  (Lib.cell_of_heap h _).trans (by simp [hz])
theorem KAt.set {w : World} {kb : Nat} {K : List Int} (h : KAt w kb K) (k : Nat) (z : Int) : KAt (w.setCell ⟨kb, k, none⟩ (.int .i64 z)) kb (K.set k z) := by
  have := setCell_heap (v := .int .i64 z) (o := k) h
  unfold KAt
  rw [this]
  simp [List.map_set]
/-- A solution and what is known of it. -/
structure CK (w : World) (kb : Nat) (S : Nat → Prop) (LA : Option Addr) (L : List Ty) (vs : List (Value × Value)) : Prop where
  tys : Tys w S LA L vs
  lt : ∀ b, S b → b < w.heap.size ∧ b ≠ kb
  few : L.length ≤ 4000000
theorem CK.kept {w w' : World} {kb : Nat} {S : Nat → Prop} {LA : Option Addr} {L : List Ty} {vs : List (Value × Value)} (h : CK w kb S LA L vs) (hk : Kp (fun y => y = kb) w w') : Kept S w w' := hk.kept h.lt
theorem CK.kp {w w' : World} {kb : Nat} {S : Nat → Prop} {LA : Option Addr} {L : List Ty} {vs : List (Value × Value)} (h : CK w kb S LA L vs) (hk : Kp (fun y => y = kb) w w') : CK w' kb S LA L vs :=
  ⟨h.tys.keep (h.kept hk), fun b hb => ⟨Nat.lt_of_lt_of_le (h.lt b hb).1 hk.size, (h.lt b hb).2⟩, h.few⟩
def MemoK (θ : Nat → Ty) (ρ : Ty → Nat) (t : Ty) (K : List Int) : Prop := ∀ (k : Nat) (v : Int), K[k]? = some v → v = 0 ∨ v = ((capS (θ k).size : Nat) : Int) ∨ ρ t < ρ (tyV k)
def RCnt (θ : Nat → Ty) (t : Ty) (kb : Nat) (K : List Int) (w : World) (e : Ending) (w' : World) : Prop :=
  ∃ K' : List Int, e = .returned (.int .i64 ((capS (sub θ t).size : Nat) : Int)) ∧ KAt w' kb K' ∧ K'.length = K.length ∧ (∀ (k : Nat) (v : Int), K'[k]? = some v → K[k]? = some v ∨ v = ((capS (θ k).size : Nat) : Int)) ∧ Kp (fun y => y = kb) w w'
theorem capS_pos (t : Ty) : 0 < capS t.size := by
  have : 0 < t.size := by cases t; simp [Ty.size]; omega
  unfold capS
  omega

set_option maxHeartbeats 8000000 in
set_option maxRecDepth 100000 in
theorem rcount_any (kb : Nat) (S : Nat → Prop) (L : List Ty) (LA : Option Addr) (lc : Nat) (vs : List (Value × Value)) (Q : Ty → Prop) (hQ : Down Q) (hQL : ∀ n u, solv L n = some u → Q u) (ρ : Ty → Nat) (hr : Rank (solv L) ρ) (θ : Nat → Ty) (hθ : Appl (solv L) θ) :
    ∀ (D : Nat) (t : Ty) (u v : Value) (K : List Int) (w : World), ρ t ≤ D → CK w kb S LA L vs → TyIs w S t u v → Q t → KAt w kb K → K.length = L.length → MemoK θ ρ t K →
    Calls Tryd.prog 67 #[.slice LA L.length lc, .agg #[u, v], .slice (some ⟨kb, 0, none⟩) L.length L.length] w (RCnt θ t kb K w) := by
  intro D
  induction D using Nat.strongRecOn with | ind D ih => ?_
  intro t u v K w hD hck hty hq hK hKl hM
  have IH := Lib.hid ih
  have HTY := Lib.hid hty
  obtain ⟨A, c, vs', rfl, rfl, h1, h2, h3, h4, hTS⟩ := hty.open_
  have hb0 : Below w.heap.size w (w.alloc (.cells #[sv t.name, .slice A t.args.length c] 30)) := (Below.refl _ _).alloc (Nat.le_refl _) _
  have hX0 := alloc1 w (.cells #[sv t.name, .slice A t.args.length c] 30)
  have RV := rvar_any t.name A t.args.length c (w.alloc (.cells #[sv t.name, .slice A t.args.length c] 30)) (hQ.name t hq) (by omega)
  rw [← varOf_mk, show Ty.mk t.name t.args = t from by cases t; rfl] at RV
  have RVH := Lib.hid RV
  clear RV
  obtain ⟨l, hl⟩ : ∃ l, l = t.args.length := ⟨_, rfl⟩
  obtain ⟨m, hm⟩ : ∃ m, m = L.length := ⟨_, rfl⟩
  rw [← hl] at RVH hb0 hX0 h2 h3 ⊢
  rw [← hm] at hKl ⊢
  have HL := Lib.hid hl
  have HMM := Lib.hid hm
  have hsz0 : (w.alloc (.cells #[sv t.name, .slice A l c] 30)).heap.size = w.heap.size + 1 := by exact Array.size_push _
  clear hl hm ih hty
  go_enter Tryd.func67, Tryd.ntmps67
  go_wp2_with fail
  refine RVH.out.mono ?_
  generalize w.alloc (.cells #[sv t.name, .slice A l c] 30) = w0 at *
  rintro e w1 ⟨rfl, hb1⟩
  have hb01 := hb0.trans (hb1.mono hb0.size)
  have hk1 : Kp (fun y => y = kb) w w1 := Kp.ofBelow hb01
  have hX1 := (hb1.block _ (lt_of_heap hX0)).trans hX0
  have HX1 := Lib.hid hX1
  have HCK1 := Lib.hid (hck.kp hk1)
  have HKA1 : Hid (KAt w1 kb K) := Lib.hid ((hb01.block kb hK.lt).trans hK)
  have HT1 := Lib.hid (HTY.out.keep (hck.kept hk1))
  have HTS := Lib.hid (hTS.keep (hck.kept hk1))
  have HK1 := Lib.hid hk1
  have hkw : kb ≠ w.heap.size := by have := hK.lt; omega
  have hxw1 : w.heap.size < w1.heap.size := lt_of_heap hX1
  clear hTS hb0 hb1 hb01 hX0 hX1 hk1 hck hK HTY RVH hsz0
  by_cases hh : ∃ k x, varOf t = some k ∧ solv L k = some x
  · obtain ⟨k, x, hv, hs⟩ := hh
    have htk : t = tyV k := good_tyV (hQ.name t hq) hv
    have hk100 := varOf_lt (hQ.name t hq) hv
    have hkm : k < m := by rw [HMM.out]; exact (List.getElem?_eq_some_iff.1 (solv_some hs).1).1
    have hsz : (sub θ t).size = (θ k).size := by rw [sub_var hv]
    have hsu : (sub θ x).size = (θ k).size := by rw [hθ.sat k x hs]
    have hru := hr.given t k x hv hs
    have RG := rget_any k S L LA lc vs w1 HCK1.out.tys (fun b hb => (HCK1.out.lt b hb).1) (by omega)
    rw [hs, ← HMM.out] at RG
    have HRG := Lib.hid RG
    rw [hv]
    simp only [varI, Option.isSome_some]
    have hzk : ∃ z, K[k]? = some z := ⟨K[k]'(by omega), List.getElem?_eq_getElem _⟩
    obtain ⟨z, hz⟩ := hzk
    have hzz : z = 0 ∨ z = ((capS (θ k).size : Nat) : Int) := by
      rcases hM k z hz with h | h | h
      · exact .inl h
      · exact .inr h
      · rw [htk] at h
        simp at h
    have HZ := Lib.hid hz
    have HSZ := Lib.hid hsz
    have HSU := Lib.hid hsu
    have HS := Lib.hid hs
    have HTK := Lib.hid htk
    have HV := Lib.hid hv
    have HKL := Lib.hid hKl
    clear RG hz hsz hsu hs htk hv hKl
    go_wp2_with fail
    refine HRG.out.mono ?_
    rintro e w2 ⟨hb2, un, vv, rfl, hty2⟩
    obtain ⟨un, va, rfl, rfl⟩ := hty2.shape
    have hk2 : Kp (fun y => y = kb) w1 w2 := Kp.ofBelow hb2
    have HK2 := Lib.hid (HK1.out.trans hk2 fun _ _ h => h)
    have HKA2 : Hid (KAt w2 kb K) := Lib.hid ((hb2.block kb HKA1.out.lt).trans HKA1.out)
    have HCK2 := Lib.hid (HCK1.out.kp hk2)
    have HTX2 := Lib.hid (hty2.keep (HCK1.out.kept hk2))
    have hb3 : Below w2.heap.size w2 (w2.alloc (.cells #[sv un, .slice va.1 va.2.1 va.2.2] 30)) := (Below.refl _ _).alloc (Nat.le_refl _) _
    have hX3 := alloc1 w2 (.cells #[sv un, .slice va.1 va.2.1 va.2.2] 30)
    have hb23 := hb2.trans (hb3.mono hb2.size)
    have hKA3 : KAt (w2.alloc (.cells #[sv un, .slice va.1 va.2.1 va.2.2] 30)) kb K := (hb23.block kb HKA1.out.lt).trans HKA1.out
    have hk3 : Kp (fun y => y = kb) w1 (w2.alloc (.cells #[sv un, .slice va.1 va.2.1 va.2.2] 30)) := Kp.ofBelow hb23
    have HK3 := Lib.hid (HK1.out.trans hk3 fun _ _ h => h)
    have HCK3 := Lib.hid (HCK1.out.kp hk3)
    have HTX := Lib.hid (hty2.keep (HCK1.out.kept hk3))
    have HKA3 := Lib.hid hKA3
    have k0 := hKA3.cell HZ.out
    have kz : (w2.alloc (.cells #[sv un, .slice va.1 va.2.1 va.2.2] 30)).frozen? ⟨kb, k, none⟩ = false := Lib.frozen_of_heap hKA3 k
    have HX3 := Lib.hid hX3
    have hik : (0 : Int) ≤ (k : Int) ∧ (k : Int) < (m : Int) := ⟨by omega, by omega⟩
    have hkb2 : kb < w2.heap.size := Nat.lt_of_lt_of_le HKA1.out.lt hb2.size
    clear hb2 hb3 hb23 hX3 hKA3 hk3 hty2 hk2 HRG
    rcases hzz with rfl | rfl
    · have hk4 : Kp (fun y => y = kb) w2 ((w2.setCell ⟨kb, k, none⟩ (.int .i64 (-1))).alloc (.cells #[.string (bs un), .slice va.1 va.2.1 va.2.2] 30)) := ((Kp.refl (fun y => y = kb) w2).setCell (b := kb) (o := k) (fun _ => rfl) (.int .i64 (-1))).alloc _
      have hX4 : ((w2.setCell ⟨kb, k, none⟩ (.int .i64 (-1))).alloc (.cells #[.string (bs un), .slice va.1 va.2.1 va.2.2] 30)).heap[kb]? = (w2.setCell ⟨kb, k, none⟩ (.int .i64 (-1))).heap[kb]? := ((Below.refl (w2.setCell ⟨kb, k, none⟩ (.int .i64 (-1))).heap.size _).alloc (Nat.le_refl _) (.cells #[.string (bs un), .slice va.1 va.2.1 va.2.2] 30)).block kb (by rw [sizeSet]; exact hkb2)
      have hKA4 := hX4.trans (HKA2.out.set k (-1))
      have hck4 := HCK2.out.kp hk4
      have hty4 := HTX2.out.keep (HCK2.out.kept hk4)
      have CALL := IH.out (ρ x) (by omega) x (sv un) (.slice va.1 va.2.1 va.2.2) (K.set k (-1)) _ (Nat.le_refl _) hck4 hty4 (hQL k x HS.out) hKA4 (by rw [List.length_set, HKL.out]; exact HMM.out) (fun j v hj => by
        by_cases hjk : j = k
        · subst hjk
          rw [HTK.out] at hru
          exact .inr (.inr hru)
        · rw [List.getElem?_set_ne (fun e => hjk e.symm)] at hj
          rcases hM j v hj with h | h | h
          · exact .inl h
          · exact .inr (.inl h)
          · exact .inr (.inr (by omega)))
      rw [← HMM.out] at CALL
      have CALL := Lib.hid CALL
      have HK4 := Lib.hid ((HK2.out.trans hk4 fun _ _ h => h))
      clear hX4 hKA4 hck4 hty4 hk4
      go_wp2_with fail
      refine CALL.out.mono ?_
      rintro e w5 ⟨K', rfl, hKA5, hl5, hN5, hk5⟩
      rw [HSU.out]
      have hkl5 : k < K'.length := by rw [hl5, List.length_set, HKL.out]; exact hkm
      have g0 := hKA5.cell (List.getElem?_eq_getElem hkl5)
      have gz : w5.frozen? ⟨kb, k, none⟩ = false := Lib.frozen_of_heap hKA5 k
      have hKA6 := hKA5.set k ((capS (θ k).size : Nat) : Int)
      have q0 := hKA6.cell (k := k) (z := ((capS (θ k).size : Nat) : Int)) (by rw [List.getElem?_set_self hkl5])
      have HKA6 := Lib.hid hKA6
      have HK6 := Lib.hid ((HK4.out.trans hk5 fun _ _ h => h).setCell (b := kb) (o := k) (fun _ => rfl) (.int .i64 ((capS (θ k).size : Nat) : Int)))
      have HN5 := Lib.hid hN5
      have HL5 := Lib.hid hl5
      generalize hx : capS (θ k).size = y at *
      have HY := Lib.hid hx
      clear hKA5 hKA6 hk5 hN5 hl5 hx
      go_wp2_with fail
      go_ret
      refine ⟨_, by rw [HSZ.out, HY.out]; rfl, HKA6.out, by rw [List.length_set, HL5.out, List.length_set], fun j v hj => ?_, HK6.out⟩
      by_cases hjk : j = k
      · subst hjk
        rw [List.getElem?_set_self hkl5] at hj
        exact .inr (by rw [HY.out]; exact (Option.some.inj hj).symm)
      · rw [List.getElem?_set_ne (fun e => hjk e.symm)] at hj
        rcases HN5.out j v hj with h | h
        · rw [List.getElem?_set_ne (fun e => hjk e.symm)] at h
          exact .inl h
        · exact .inr h
    · obtain ⟨y, hy⟩ : ∃ y, y = capS (θ k).size := ⟨_, rfl⟩
      have hyp : 0 < y := by rw [hy]; exact capS_pos _
      rw [← hy] at k0
      have HY := Lib.hid hy
      have hg : decide ((y : Int) > 0) = true := by simp; omega
      clear hy
      go_wp2_with fail
      go_ret
      exact ⟨K, by rw [HSZ.out, ← HY.out]; rfl, HKA3.out, rfl, fun _ _ h => .inl h, HK3.out⟩
  · have hfree : ∀ k, varOf t = some k → solv L k = none := fun k hv => by
      cases hs : solv L k with
      | none => rfl
      | some x => exact absurd ⟨k, x, hv, hs⟩ hh
    clear hh
    cases hv : varOf t with
    | some k =>
      have hs := hfree k hv
      have hk100 := varOf_lt (hQ.name t hq) hv
      have hsz : (sub θ t).size = 1 := by rw [sub_var hv, hθ.free k hs]; rfl
      have RG := rget_any k S L LA lc vs w1 HCK1.out.tys (fun b hb => (HCK1.out.lt b hb).1) (by omega)
      rw [hs, ← HMM.out] at RG
      have HRG := Lib.hid RG
      have HSZ := Lib.hid hsz
      simp only [varI, Option.isSome_some]
      clear RG hs hsz hv hfree
      go_wp2_with fail
      refine HRG.out.mono ?_
      rintro e w2 ⟨hb2, rfl⟩
      have hb23 := hb2.trans (((Below.refl w2.heap.size w2).alloc (Nat.le_refl _) (.cells #[.string ⟨#[]⟩, .slice none 0 0] 30)).mono hb2.size)
      have HKA3 : Hid (KAt (w2.alloc (.cells #[.string ⟨#[]⟩, .slice none 0 0] 30)) kb K) := Lib.hid ((hb23.block kb HKA1.out.lt).trans HKA1.out)
      have HK3 := Lib.hid (HK1.out.trans (Kp.ofBelow hb23) fun _ _ h => h : Kp (fun y => y = kb) w (w2.alloc (.cells #[.string ⟨#[]⟩, .slice none 0 0] 30)))
      clear hb2 hb23
      go_wp2_with fail
      go_ret
      exact ⟨K, by rw [HSZ.out]; rfl, HKA3.out, rfl, fun _ _ h => .inl h, HK3.out⟩
    | none =>
      have hsz : (sub θ t).size = 1 + sizesL θ t.args := size_node hv
      have HSZ := Lib.hid hsz
      have HKL := Lib.hid hKl
      simp only [varI, Option.isSome_none]
      clear hsz hv hfree hKl
      go_wp2_with fail
      go_loopw [11, 12] (fun s i wr => ∃ (k : Nat) (K' : List Int), k ≤ l ∧ i = .int .i64 k ∧ s = .int .i64 ((capS (1 + sizesL θ (t.args.take k)) : Nat) : Int) ∧ KAt wr kb K' ∧ K'.length = m ∧ (∀ (j : Nat) (v : Int), K'[j]? = some v → K[j]? = some v ∨ v = ((capS (θ j).size : Nat) : Int)) ∧ Kp (fun y => y = kb) w1 wr) (fun _ i _ => l - (intOf i).toNat)
      case atStart => exact ⟨0, K, Nat.zero_le _, rfl, rfl, HKA1.out, HKL.out, fun _ _ h => .inl h, Kp.refl _ _⟩
      case round =>
        obtain ⟨k, K', hk, rfl, rfl, hkar, hklr, hN, hkr⟩ := hrel
        have hXr := hkr.heap HX1.out (fun e => hkw e.symm)
        have x1 : wr.cell? ⟨w.heap.size, 1, none⟩ = some (.slice A l c) := (Lib.cell_of_heap hXr _).trans rfl
        have HCKR := Lib.hid (HCK1.out.kp hkr)
        have HTSR := Lib.hid (HTS.out.keep (HCK1.out.kept hkr))
        have HKAR := Lib.hid hkar
        have HKLR := Lib.hid hklr
        have HN := Lib.hid hN
        have HKR := Lib.hid hkr
        clear hXr hkar hklr hN hkr
        by_cases hlt : k < l
        · have hki : k < t.args.length := by rw [← HL.out]; exact hlt
          obtain ⟨ad, u, v, rfl, hSa, e0, e1, htya⟩ := HTSR.out.at_ (List.getElem?_eq_getElem hki)
          obtain ⟨u, v, rfl, rfl⟩ := htya.shape
          have hmem : t.args[k] ∈ t.args := List.getElem_mem hki
          have hrk := hr.arg t _ hmem
          have CALL := IH.out (ρ t.args[k]) (by omega) t.args[k] (sv u) (.slice v.1 v.2.1 v.2.2) K' wr (Nat.le_refl _) HCKR.out htya (hQ.arg t _ hq hmem) HKAR.out (by rw [HKLR.out]; exact HMM.out) (fun j z hj => by
            rcases HN.out j z hj with h | h
            · rcases hM j z h with h | h | h
              · exact .inl h
              · exact .inr (.inl h)
              · exact .inr (.inr (by omega))
            · exact .inr (.inl h))
          rw [← HMM.out] at CALL
          have CALL := Lib.hid CALL
          have hik : (0 : Int) ≤ (k : Int) ∧ (k : Int) < (l : Int) := ⟨by omega, by omega⟩
          have HSX := Lib.hid (sizesL_take (θ := θ) (List.getElem?_eq_getElem hki))
          have hs1 := capS_le (1 + sizesL θ (t.args.take k))
          have hs2 := capS_le (sub θ t.args[k]).size
          have HCA := Lib.hid (capS_add (a := 1 + sizesL θ (t.args.take k)) (b := (sub θ t.args[k]).size))
          generalize hx : capS (1 + sizesL θ (t.args.take k)) = x at *
          generalize hy : capS (sub θ t.args[k]).size = y at *
          have HX := Lib.hid hx
          have HY := Lib.hid hy
          clear hx hy htya
          go_wp2_with fail
          refine CALL.out.mono ?_
          rintro e w4 ⟨K4, rfl, hka4, hl4, hN4, hk4⟩
          rw [HY.out]
          have HKA4 := Lib.hid hka4
          have HL4 := Lib.hid hl4
          have HN4 := Lib.hid hN4
          have HK4 := Lib.hid (HKR.out.trans hk4 fun _ _ h => h)
          clear hka4 hl4 hN4 hk4
          go_wp2
          go_roundw
          case rel =>
            refine ⟨k + 1, K4, by omega, by go_num, ?_, HKA4.out, by rw [HL4.out, HKLR.out], fun j z hj => ?_, HK4.out⟩
            · have h1 := HCA.out
              rw [HSX.out, ← Nat.add_assoc, ← h1]
              go_num
            · rcases HN4.out j z hj with h | h
              · exact HN.out j z h
              · exact .inr h
          case measure => simp [intOf]; omega
        · obtain rfl : k = l := by omega
          have hx : t.args.take k = t.args := List.take_of_length_le (by rw [← HL.out]; exact Nat.le_refl _)
          rw [hx]
          have HX := Lib.hid hx
          clear hx
          go_wp2
          go_ret
          exact ⟨K', by rw [HSZ.out]; rfl, HKAR.out, by rw [HKLR.out, HKL.out], HN.out, HK1.out.trans HKR.out fun _ _ h => h⟩
end Go.Proofs.YtndhglcdkegigaaDoor
