/-
  The walk of law40's DeltaBack.
  Conditions: the messages and the numbers lie in memory.
-/
import Derived.Test.YtlgdminpkkhejaaDtN
import Derived.Test.YtlgdminpkkhejaaDtU
namespace Go.Proofs.Ytlgdminpkkhejaa
open Go.RowKit

/-- Messages in a slice. -/
def SlM (w : World) (v : Value) (l : List Msg) : Prop := ∃ (A : Option Addr) (c : Nat), v = .slice A l.length c ∧ (A = none → c = 0) ∧ l.length ≤ c ∧ Row w (Lt w.heap.size) A (flt msC l)
theorem SlM.below {w w' : World} {v : Value} {l : List Msg} (h : SlM w v l) (hb : Below w.heap.size w w') : SlM w' v l := by
  obtain ⟨A, c, e, h1, h2, h3⟩ := h
  exact ⟨A, c, e, h1, h2, h3.below hb⟩
theorem SlM.own {w : World} {base : Nat} {v : Value} {l : List Msg} (h : w.ownsRow base 40 3 v l.length (flt msC l)) : SlM w v l := by
  obtain ⟨A, c, rfl, hn⟩ := own_slice h
  exact ⟨A, c, rfl, hn, (own_le h).1, Row.ofOwn h fun _ _ _ h => h⟩
theorem SlM.kept {w w' : World} {M : Nat → Prop} {v : Value} {l : List Msg} (h : SlM w v l) (hk : Kp M w w') (hM : ∀ y, M y → w.heap.size ≤ y) : SlM w' v l := by
  obtain ⟨A, c, e, h1, h2, h3⟩ := h
  exact ⟨A, c, e, h1, h2, h3.kept hk hM⟩
/-- The cells of the difference and of the pair of lists. -/
def bkC (X P : Nat) (X1 X2 X3 A0 A1 : Option Addr) (xg xc xm a b xc1 xc2 xc3 c0 c1 : Nat) : List (Addr × Value) := [(⟨X, 0, none⟩, .slice X1 xg xc1), (⟨X, 1, none⟩, .slice X2 xc xc2), (⟨X, 2, none⟩, .slice X3 xm xc3), (⟨P, 0, none⟩, .slice A0 a c0), (⟨P, 1, none⟩, .slice A1 b c1)]
set_option maxHeartbeats 6400000 in
set_option maxRecDepth 100000 in
theorem back_light (raw more : List Msg) (rv mv : Value) (xs : List Int) (A : Option Addr) (c : Nat) (turn : Int) (w : World) (hr : SlM w rv raw) (hm : SlM w mv more) (hrl : raw.length ≤ 30) (hml : more.length ≤ 30)
    (hA : Row w (Lt w.heap.size) A (xs.map (Value.int .i64))) (hn : xs.length ≤ 400) (hf : ∀ x ∈ xs, -9223372036854775808 ≤ x ∧ x ≤ 9223372036854775807) (ht : -9223372036854775808 ≤ turn ∧ turn ≤ 9223372036854775807) :
    Calls Try.prog 4 #[rv, mv, .slice A xs.length c, .int .i64 turn] w fun e w' => e = .returned (.bool true) ∧ Below w.heap.size w w' := by
  have HLI := Lib.hid (light_any xs.length A c w)
  rw [decide_eq_true hn] at HLI
  have HRO := Lib.hid (roll_any xs A c w hA hn hf)
  obtain ⟨z, hz⟩ : ∃ z, z = xs.length := ⟨_, rfl⟩
  rw [← hz] at HLI HRO ⊢
  obtain ⟨i0, hi, hz0, hz1, hz2⟩ := info_parts infoMs
  have HRW := Lib.hid hr
  have HMO := Lib.hid hm
  obtain ⟨RA, rc, rfl, _⟩ := hr
  obtain ⟨MA, mc, rfl, _⟩ := hm
  have HRL := Lib.hid hrl
  have HML := Lib.hid hml
  obtain ⟨r, hrn⟩ : ∃ r, r = raw.length := ⟨_, rfl⟩
  obtain ⟨q, hqn⟩ : ∃ q, q = more.length := ⟨_, rfl⟩
  rw [← hrn] at hrl HRW ⊢
  rw [← hqn] at hml HMO ⊢
  have hq1 : decide ((30 : Int) < (r : Int)) = false := by simp; omega
  have hq2 : decide ((30 : Int) < (q : Int)) = false := by simp; omega
  have hq3 : ¬ 30 < r := by omega
  have hq4 : ¬ 30 < q := by omega
  have HT := Lib.hid ht
  clear hA hn hz hf hrn hqn ht
  go_enter Try.func4, Try.ntmps4
  go_wp2_with fail
  refine HLI.out.mono ?_
  rintro e w0 ⟨rfl, rfl⟩
  go_wp2_with fail
  refine HRO.out.mono ?_
  rintro e w1 ⟨rfl, hD1, hb1⟩
  have HB1 := Lib.hid hb1
  have hs1 := hb1.size
  have hd1 := hD1.lt
  have HM1 := Lib.hid (msgs_any 9 w.heap.size xs w1 (by decide) hD1)
  clear hD1 hb1 HRO HLI hq1 hq2 hq3 hq4
  go_wp2_with fail
  refine HM1.out.mono ?_
  rintro e w2 ⟨v2, old, rfl, hown2, hol, _, hD2, hK2⟩
  have HO2 := Lib.hid hown2
  obtain ⟨OA, oc, rfl, hon⟩ := own_slice hown2
  have HB2 := Lib.hid (kp_below HB1.out hK2 fun y e => by omega)
  have HM2 := Lib.hid (msgs_any 9 w.heap.size xs w2 (by decide) hD2)
  have hs2 := hK2.size
  clear hD2 hK2 HM1 hown2 hon
  go_wp2_with fail
  refine HM2.out.mono ?_
  rintro e w3 ⟨v3, now, rfl, hown3, hnl, _, hD3, hK3⟩
  have HN3 := Lib.hid (SlM.own hown3)
  obtain ⟨NA, nc, rfl, hnn⟩ := own_slice hown3
  have hB3 := kp_below HB2.out hK3 fun y e => by omega
  have HO3 := Lib.hid (SlM.own (hK3.own HO2.out fun g hg e => by have := (HO2.out.lt g hg).1; have e : g = w.heap.size := e; omega))
  have hs3 := hK3.size
  have HR3 := Lib.hid (HRW.out.below hB3)
  have HM3 := Lib.hid (HMO.out.below hB3)
  have HB3 := Lib.hid hB3
  have HNL := Lib.hid (And.intro hol hnl)
  obtain ⟨n, hn⟩ : ∃ n, n = old.length := ⟨_, rfl⟩
  obtain ⟨p, hp⟩ : ∃ p, p = now.length := ⟨_, rfl⟩
  rw [← hn] at HO3 hol ⊢
  rw [← hp] at HN3 hnl ⊢
  obtain ⟨w4, hw4⟩ : ∃ w4, w4 = w3.alloc (.cells #[.slice OA n oc, .slice NA p nc, .slice RA r rc, .slice MA q mc] 32) := ⟨_, rfl⟩
  have hb4 : Below w3.heap.size w3 w4 := by rw [hw4]; exact (Below.refl _ _).alloc (Nat.le_refl _) _
  have hx4 : w4.heap[w3.heap.size]? = some (.cells #[.slice OA n oc, .slice NA p nc, .slice RA r rc, .slice MA q mc] 32 (0, 0)) := by rw [hw4]; exact alloc1 _ _
  have HIT : Hid (∀ (k : Nat) (w' : World), k < 2 → Below w4.heap.size w4 w' → ∃ (v0 v1 : Value) (L0 L1 : List Msg), w'.cell? ⟨w3.heap.size, k * 2, none⟩ = some v0 ∧ w'.cell? ⟨w3.heap.size, k * 2 + 1, none⟩ = some v1 ∧ SlM w' v0 L0 ∧ SlM w' v1 L1 ∧ L0.length ≤ 30 ∧ L1.length ≤ 30) := Lib.hid fun k w' hk hb => by
    have hx := (hb.block _ (lt_of_heap hx4)).trans hx4
    obtain rfl | rfl : k = 0 ∨ k = 1 := by omega
    · exact ⟨_, _, old, now, (Lib.cell_of_heap hx _).trans rfl, (Lib.cell_of_heap hx _).trans rfl, (HO3.out.below hb4).below hb, (HN3.out.below hb4).below hb, by have := HNL.out; omega, by have := HNL.out; omega⟩
    · exact ⟨_, _, raw, more, (Lib.cell_of_heap hx _).trans rfl, (Lib.cell_of_heap hx _).trans rfl, (HR3.out.below hb4).below hb, (HM3.out.below hb4).below hb, HRL.out, HML.out⟩
  have HW4 := Lib.hid hw4
  have HB4 := Lib.hid (HB3.out.trans (hb4.mono HB3.out.size))
  have hs4 : w4.heap.size = w3.heap.size + 1 := by rw [hw4]; simp
  clear hD3 hK3 hB3 HM2 hown3 HO2 HB1 HB2 hn hp hw4 hb4 hx4 HN3 HO3 HR3 HM3 HB3 hnn HRW HMO HRL HML HNL hol hnl hrl hml
  go_wp2_with fail
  rw [← HW4.out]
  go_loopw [49] (fun i wr => ∃ k : Nat, k ≤ 2 ∧ i = .int .i64 k ∧ Below w4.heap.size w4 wr) (fun i _ => 2 - (intOf i).toNat)
  case atStart => exact ⟨0, by omega, rfl, Below.refl _ _⟩
  case round =>
    obtain ⟨k, hk2, rfl, hB⟩ := hrel
    by_cases hlt : k < 2
    · obtain ⟨v0, v1, L0, L1, p0, p1, hS0, hS1, hl0, hl1⟩ := HIT.out k wr hlt hB
      obtain ⟨A0, c0, rfl, hn0, hc0, hr0⟩ := id hS0
      obtain ⟨A1, c1, rfl, hn1, hc1, hr1⟩ := id hS1
      have hik : (0 : Int) ≤ (k : Int) ∧ (k : Int) < 2 := ⟨by omega, by omega⟩
      obtain ⟨wa, hwa⟩ : ∃ wa, wa = wr.alloc (.cells #[.slice A0 L0.length c0, .slice A1 L1.length c1] 32) := ⟨_, rfl⟩
      have hba : Below wr.heap.size wr wa := by rw [hwa]; exact (Below.refl _ _).alloc (Nat.le_refl _) _
      have hxa : wa.heap[wr.heap.size]? = some (.cells #[.slice A0 L0.length c0, .slice A1 L1.length c1] 32 (0, 0)) := by rw [hwa]; exact alloc1 _ _
      have HBA := Lib.hid (hB.trans (hba.mono hB.size))
      have HXA := Lib.hid hxa
      have HR0 := Lib.hid fun w' (hb : Below wa.heap.size wa w') => (hr0.below hba).below hb
      have HR1 := Lib.hid fun w' (hb : Below wa.heap.size wa w') => (hr1.below hba).below hb
      have HOF := Lib.hid (dof_any L0 L1 A0 A1 c0 c1 wa (by omega) (by omega) hn0 hn1 (HR0.out wa (Below.refl _ _)) (HR1.out wa (Below.refl _ _)))
      obtain ⟨a, ha⟩ : ∃ a, a = L0.length := ⟨_, rfl⟩
      obtain ⟨b, hb⟩ : ∃ b, b = L1.length := ⟨_, rfl⟩
      rw [← ha] at HOF hl0 hc0 p0 hwa
      rw [← hb] at HOF hl1 hc1 p1 hwa
      rw [← ha, ← hb] at HXA
      have HLN := Lib.hid (And.intro ha hb)
      have HNN := Lib.hid (And.intro hn0 hn1)
      have HWA := Lib.hid hwa
      clear hS0 hS1 hr0 hr1 ha hb hwa hba hxa hB hn0 hn1
      go_wp2_with fail
      rw [← HWA.out]
      refine HOF.out.mono ?_
      clear p0 p1
      rintro e w5 ⟨v5, rfl, hD5, hb5⟩
      have hD5 := hD5.more (S' := Lt w5.heap.size) fun y hy => hy.2
      have hmf := mate_few (goneM L1 L0) (goneM L0 L1)
      have hgl1 := gone_len L0 L1
      have hgl2 := gone_len L1 L0
      rw [← HLN.out.1] at hgl1
      rw [← HLN.out.2] at hgl2
      have hap := apply_of L0 L1
      have HEQ := Lib.hid (of_empty L0 L1)
      have HPA := Lib.hid (of_apart L0 L1)
      have HMV := Lib.hid (of_moves L0 L1)
      obtain ⟨x, hx⟩ : ∃ x, x = ofM L0 L1 := ⟨_, rfl⟩
      have hxg : x.gone.length ≤ 30 := by rw [hx]; show (mateM L0 L1).2.2.length ≤ 30; unfold mateM; omega
      have hxc : x.come.length ≤ 30 := by rw [hx]; show (mateM L0 L1).1.length ≤ 30; unfold mateM; omega
      have hxm : x.moved.length ≤ 30 := by rw [hx]; show ((mateM L0 L1).2.1.map mvOf).length ≤ 30; unfold mateM; rw [List.length_map]; omega
      have HX := Lib.hid hx
      rw [← hx] at hD5 hap HEQ HPA HMV
      have HDX := Lib.hid fun w' (hb : Below w5.heap.size w5 w') => hD5.below hb
      obtain ⟨X1, X2, X3, xc1, xc2, xc3, rfl, _, _, xk1, xk2, xk3, xr1, xr2, xr3⟩ := hD5
      have HXR := Lib.hid fun w' (hb : Below w5.heap.size w5 w') => And.intro (xr1.below hb) (And.intro (xr2.below hb) (xr3.below hb))
      obtain ⟨xg, hxg'⟩ : ∃ n, n = x.gone.length := ⟨_, rfl⟩
      obtain ⟨xc, hxc'⟩ : ∃ n, n = x.come.length := ⟨_, rfl⟩
      obtain ⟨xm, hxm'⟩ : ∃ n, n = x.moved.length := ⟨_, rfl⟩
      rw [← hxg', ← hxc', ← hxm'] at HDX HEQ ⊢
      rw [← hxg'] at hxg xk1
      rw [← hxc'] at hxc xk2
      rw [← hxm'] at hxm xk3
      have HXL := Lib.hid (And.intro hxg' (And.intro hxc' hxm'))
      obtain ⟨w6, hw6⟩ : ∃ w6, w6 = w5.alloc (.cells #[.slice X1 xg xc1, .slice X2 xc xc2, .slice X3 xm xc3] 25) := ⟨_, rfl⟩
      have hb6 : Below w5.heap.size w5 w6 := by rw [hw6]; exact (Below.refl _ _).alloc (Nat.le_refl _) _
      have hx6 : w6.heap[w5.heap.size]? = some (.cells #[.slice X1 xg xc1, .slice X2 xc xc2, .slice X3 xm xc3] 25 (0, 0)) := by rw [hw6]; exact alloc1 _ _
      have hxa5 := (hb5.block _ (lt_of_heap HXA.out)).trans HXA.out
      have HAP := Lib.hid (apply_any L0 x _ A0 c0 w6 (by rw [← HLN.out.1]; omega) HNN.out.1 (HR0.out w6 (hb5.trans (hb6.mono hb5.size))) (HDX.out w6 hb6) (by rw [← hxg', ← hxc', ← hxm']; omega))
      rw [hap, ← HLN.out.1] at HAP
      have HXA5 := Lib.hid hxa5
      have HB56 := Lib.hid hb6
      have HBA5 := Lib.hid hb5
      have HX6 := Lib.hid hx6
      have HW6 := Lib.hid hw6
      have hs5 := hb5.size
      have hs6 : w6.heap.size = w5.heap.size + 1 := by rw [hw6]; simp
      have p0 : w5.cell? ⟨wr.heap.size, 0, none⟩ = some (.slice A0 a c0) := (Lib.cell_of_heap hxa5 _).trans rfl
      have hsa : wr.heap.size < w5.heap.size := by have := lt_of_heap HXA.out; omega
      clear hx hxg' hxc' hxm' hmf hgl1 hgl2 hap xr1 xr2 xr3 hb5 hb6 hw6 hx6 hxa5 HOF
      go_wp2_with fail
      clear p0
      rw [← HW6.out]
      refine HAP.out.mono ?_
      rintro e w7 hap
      obtain ⟨v7, l7, hl7, rfl, hown7, hb7⟩ | ⟨hno, _⟩ := hap
      rotate_left
      · cases hno
      obtain rfl : srtM L1 = l7 := Option.some.inj hl7
      rw [srtM_len, ← HLN.out.2] at hown7
      obtain ⟨YA, yc, rfl, _⟩ := own_slice hown7
      have hb57 := HB56.out.trans (hb7.mono HB56.out.size)
      have hba7 := HBA5.out.trans (hb57.mono HBA5.out.size)
      have hx7 := (hb7.block _ (lt_of_heap HX6.out)).trans HX6.out
      have hxa7 := (hb57.block _ (lt_of_heap HXA5.out)).trans HXA5.out
      have p1 : w7.cell? ⟨wr.heap.size, 1, none⟩ = some (.slice A1 b c1) := (Lib.cell_of_heap hxa7 _).trans rfl
      have HSO := Lib.hid (sorted_any (Lt w7.heap.size) L1 A1 c1 w7 (by rw [← HLN.out.2]; omega) HNN.out.2 (HR1.out w7 hba7))
      rw [← HLN.out.2] at HSO
      have HX7 := Lib.hid hx7
      have HXA7 := Lib.hid hxa7
      have HB57 := Lib.hid hb57
      have HO7 := Lib.hid hown7
      have hs7 := hb7.size
      clear hl7 hown7 hb7 hb57 hba7 hx7 hxa7 HAP HX6 HXA5 HB56 HW6
      go_wp2_with fail
      clear p1
      refine HSO.out.mono ?_
      rintro e w8 ⟨v8, rfl, hown8, hb8⟩
      rw [srtM_len, ← HLN.out.2] at hown8
      obtain ⟨ZA, zc, rfl, _⟩ := own_slice hown8
      have hll : (srtM L1).length = b := by rw [srtM_len, HLN.out.2]
      have hsl := sameList_any (srtM L1) (srtM L1) YA ZA yc zc w8 (by rw [hll]; omega) (Row.ofOwn ((Kp.ofBelow (M := fun _ => False) hb8).own HO7.out fun _ _ e => e) fun _ _ _ h => h) (Row.ofOwn hown8 fun _ _ _ h => h)
      rw [hll] at hsl
      have HSL := Lib.hid hsl
      have HX8 := Lib.hid ((hb8.block _ (lt_of_heap HX7.out)).trans HX7.out)
      have HXA8 := Lib.hid ((hb8.block _ (lt_of_heap HXA7.out)).trans HXA7.out)
      have HB58 := Lib.hid (HB57.out.trans (hb8.mono HB57.out.size))
      have hs8 := hb8.size
      clear hown8 hb8 hll hsl HSO HX7 HXA7 HB57 HO7
      go_wp2_with fail
      refine HSL.out.mono ?_
      rintro e w9 ⟨r9, rfl, hr9, hb9⟩
      obtain rfl : r9 = true := by simpa using hr9
      have hxa9 := (hb9.block _ (lt_of_heap HXA8.out)).trans HXA8.out
      have p0 : w9.cell? ⟨wr.heap.size, 0, none⟩ = some (.slice A0 a c0) := (Lib.cell_of_heap hxa9 _).trans rfl
      have HX9 := Lib.hid ((hb9.block _ (lt_of_heap HX8.out)).trans HX8.out)
      have HXA9 := Lib.hid hxa9
      have HB59 := Lib.hid (HB58.out.trans (hb9.mono HB58.out.size))
      have hs9 := hb9.size
      obtain ⟨a1, ha1⟩ : ∃ a1, a1 = a + 1 := ⟨_, rfl⟩
      have hai : (a : Int) + 1 = (a1 : Int) := by omega
      have HMO := Lib.hid (mod_any turn a1 w9 HT.out.1 HT.out.2 (by omega) (by omega))
      have hj := Int.emod_nonneg turn (show (a1 : Int) ≠ 0 by omega)
      have hj2 := Int.emod_lt_of_pos turn (show (0 : Int) < (a1 : Int) by omega)
      obtain ⟨j, hj3⟩ : ∃ j : Nat, (j : Int) = turn % (a1 : Int) := ⟨(turn % (a1 : Int)).toNat, by omega⟩
      rw [← hj3] at HMO hj2
      have hja : j ≤ a := by omega
      have HA1 := Lib.hid ha1
      clear hr9 hb9 hxa9 HSL HX8 HXA8 HB58 hj hj3 ha1 hj2
      go_wp2_with fail
      clear p0
      refine HMO.out.mono ?_
      rintro e w9' ⟨rfl, rfl⟩
      clear HMO
      go_wp2_with fail
      have HC9 : Hid (AtCells [(⟨wr.heap.size, 0, none⟩, .slice A0 a c0)] w9) := Lib.hid ⟨(Lib.cell_of_heap HXA9.out _).trans rfl, trivial⟩
      have hba9 := HBA5.out.trans (HB59.out.mono HBA5.out.size)
      have hr9 := HR0.out w9 hba9
      have hFR := hr9.front (j * 3)
      rw [flt_take msC_len] at hFR
      have hBK := back_row msC_len hr9 (ys := L0) HLN.out.1.symm hc0 j
      obtain ⟨SB, hSB⟩ : ∃ SB, SB = backOf A0 3 c0 j := ⟨_, rfl⟩
      rw [← hSB] at hBK
      have HSB := Lib.hid hSB
      have HFR := Lib.hid hFR
      have HBK := Lib.hid hBK
      have hjc : (0 : Int) ≤ (j : Int) ∧ (j : Int) ≤ (c0 : Int) ∧ (j : Int) ≤ (a : Int) := ⟨by omega, by omega, by omega⟩
      have HBA9 := Lib.hid hba9
      clear hba9 hr9 hFR hBK hSB
      refine wp_region_mix (AtCells [(⟨wr.heap.size, 0, none⟩, .slice A0 a c0)]) [(true, 0), (true, 1), (true, 2), (true, 3), (true, 5), (true, 6), (true, 7), (true, 8), (false, 4), (false, 9)] [10] (by kernel_rfl) (by kernel_rfl) ?st ?ht
      case st => exact HC9.out.below (Below.refl _ w9).drew
      case ht =>
      simp only [mixAt, List.filterMap_cons, List.filterMap_nil, List.getElem?_toArray, List.getElem?_cons_succ, List.getElem?_cons_zero, Option.map_some]
      refine wpMix_load ?vu0 rfl (fun w' hS => ?yu0) ?ku0
      case yu0 =>
        obtain ⟨g0, _⟩ := hS
        go_simp
        try rfl
      case ku0 =>
      go_simp
      refine wpMix_load ?vu1 rfl (fun w' hS => ?yu1) ?ku1
      case yu1 =>
        obtain ⟨g0, _⟩ := hS
        go_simp
        try rfl
      case ku1 =>
      go_simp
      refine wpMix_load ?vu2 rfl (fun w' hS => ?yu2) ?ku2
      case yu2 =>
        obtain ⟨g0, _⟩ := hS
        go_simp
        try rfl
      case ku2 =>
      go_simp
      refine wpMix_load (.slice SB (a - j) (c0 - j)) rfl (fun w' hS => ?yu3) ?ku3
      case yu3 =>
        go_simp
        rw [HSB.out]
        try rfl
      case ku3 =>
      go_simp
      refine wpMix_load ?vv5 rfl (fun w' hS => ?yv5) ?kv5
      case yv5 =>
        obtain ⟨g0, _⟩ := hS
        go_simp
        try rfl
      case kv5 =>
      go_simp
      refine wpMix_load ?vv6 rfl (fun w' hS => ?yv6) ?kv6
      case yv6 =>
        obtain ⟨g0, _⟩ := hS
        go_simp
        try rfl
      case kv6 =>
      go_simp
      refine wpMix_load ?vv7 rfl (fun w' hS => ?yv7) ?kv7
      case yv7 =>
        obtain ⟨g0, _⟩ := hS
        go_simp
        try rfl
      case kv7 =>
      go_simp
      refine wpMix_load (.slice A0 j c0) rfl (fun w' hS => ?yv8) ?kv8
      case yv8 =>
        go_simp
        try simp only [← front_of A0 j c0 3]
        try rfl
      case kv8 =>
      go_simp
      refine wpMix_keep rfl ?_
      refine wp_append_row _ _ 22 rfl w9.heap.size 40 i0 _ 3 32 Try.underlying22 hi hz0 hz1 hz2 rfl (by omega) (.slice none 0 0) 0 [] rfl (World.ownsRow_nil _ _ _ _) (Lt w9.heap.size) SB (a - j) (c0 - j) (flt msC (L0.drop j)) rfl (by rw [flt_length msC_len, List.length_drop, ← HLN.out.1]) HBK.out (flt_one' msC_one _) (by unfold maxLen; omega) (by omega) (Nat.le_refl _) ?_
      intro v1 w10 hown1 hg1 _
      have hb10 : Below w9.heap.size w9 w10 := ((Below.refl _ w9).drew).grown hg1 (Nat.le_refl _) (fun r hr => by cases hr)
      rw [Nat.zero_add, List.nil_append] at hown1
      obtain ⟨D1, dc1, rfl, _⟩ := own_slice hown1
      have HOWN1 := Lib.hid hown1
      have HB10 := Lib.hid hb10
      have hs10 := hb10.size
      clear hown1 hg1 hb10
      refine ⟨HC9.out.below HB10.out, ?_⟩
      refine wpMix_keep rfl ?_
      refine wp_append_row _ _ 22 rfl w9.heap.size 40 i0 _ 3 32 Try.underlying22 hi hz0 hz1 hz2 rfl (by omega) (.slice D1 (a - j) dc1) (a - j) (flt msC (L0.drop j)) rfl HOWN1.out (Lt w9.heap.size) A0 j c0 (flt msC (L0.take j)) rfl (by rw [flt_length msC_len, List.length_take, ← HLN.out.1]; congr 1; omega) (HFR.out.keep (kept_below HB10.out)) (flt_one' msC_one _) (by unfold maxLen; omega) (by omega) hs10 ?_
      intro v2 w11 hown2 hg2 _
      have hlt1 := HOWN1.out.lt
      have hb11 : Below w9.heap.size w9 w11 := HB10.out.grown hg2 hs10 (fun r hr => (hlt1 r hr).1)
      have hs11 := hb11.size
      rw [show a - j + j = a by omega, ← flt_append] at hown2
      have hml : (L0.drop j ++ L0.take j).length = a := by rw [List.length_append, List.length_drop, List.length_take, ← HLN.out.1]; omega
      have hmp : (L0.drop j ++ L0.take j).Perm L0 := List.perm_append_comm.trans (by rw [List.take_append_drop])
      obtain ⟨ML, hML⟩ : ∃ ML, ML = L0.drop j ++ L0.take j := ⟨_, rfl⟩
      rw [← hML] at hown2 hml hmp
      obtain ⟨MA', mc', rfl, hmn⟩ := own_slice hown2
      have HOM := Lib.hid hown2
      have HMP := Lib.hid (And.intro hml.symm (And.intro hmp hmn))
      have HB511 := Lib.hid (HB59.out.trans (hb11.mono HB59.out.size))
      have HX11 := Lib.hid ((hb11.block _ (lt_of_heap HX9.out)).trans HX9.out)
      have HXA11 := Lib.hid ((hb11.block _ (lt_of_heap HXA9.out)).trans HXA9.out)
      have HC11 := Lib.hid (HC9.out.below hb11)
      clear hown2 hg2 hlt1 hb11 hml hmp hML hmn HOWN1 HB10 HBK HFR HBA9 HSB HB59 HX9 HXA9 HC9
      refine ⟨HC11.out, ?_⟩
      refine wpMix_nil ?_
      simp only [opsAt, List.filterMap_cons, List.filterMap_nil, List.getElem?_toArray, List.getElem?_cons_succ, List.getElem?_cons_zero]
      go_wp2
      refine NoPanic.normal ?_
      go_wp2_with fail
      have HCL : Hid (AtCells (bkC w5.heap.size wr.heap.size X1 X2 X3 A0 A1 xg xc xm a b xc1 xc2 xc3 c0 c1) w11) := Lib.hid ⟨(Lib.cell_of_heap HX11.out _).trans rfl, (Lib.cell_of_heap HX11.out _).trans rfl, (Lib.cell_of_heap HX11.out _).trans rfl, (Lib.cell_of_heap HXA11.out _).trans rfl, (Lib.cell_of_heap HXA11.out _).trans rfl, trivial⟩
      have hba11 := HBA5.out.trans (HB511.out.mono HBA5.out.size)
      obtain ⟨hml, hmp, hmn⟩ := HMP.out
      have hof0 := dof_any L0 ML A0 MA' c0 mc' w11.drew (by rw [← HLN.out.1]; omega) (by rw [← hml]; omega) HNN.out.1 hmn (HR0.out w11 hba11) (Row.ofOwn HOM.out fun _ _ _ h => h)
      rw [← HLN.out.1, ← hml] at hof0
      have HOF0 := Lib.hid hof0
      have HEM0 : Hid (((ofM L0 ML).gone.length + (ofM L0 ML).come.length + (ofM L0 ML).moved.length = 0)) := Lib.hid ((of_empty L0 ML).2 (srtM_congr hmp.symm))
      have hs511 := HB511.out.size
      clear hba11 hml hmp hmn hof0
      refine wp_region_mix (AtCells (bkC w5.heap.size wr.heap.size X1 X2 X3 A0 A1 xg xc xm a b xc1 xc2 xc3 c0 c1)) [(true, 0), (true, 1), (true, 2), (false, 3), (false, 4), (true, 5), (true, 6), (true, 7), (true, 9), (true, 10), (true, 12), (true, 13), (false, 8), (false, 11), (false, 14), (false, 15), (true, 16), (true, 17), (true, 18), (true, 19), (true, 20), (true, 21), (true, 23), (false, 22), (false, 24)] [25, 26] (by kernel_rfl) (by kernel_rfl) ?sr ?hr
      case sr => exact HCL.out.below (Below.refl _ w11).drew
      case hr =>
      simp only [mixAt, List.filterMap_cons, List.filterMap_nil, List.getElem?_toArray, List.getElem?_cons_succ, List.getElem?_cons_zero, Option.map_some]
      refine wpMix_load ?vra0 rfl (fun w' hS => ?yra0) ?kra0
      case yra0 =>
        obtain ⟨g0, g1, g2, g3, g4, _⟩ := hS
        go_simp
        try rfl
      case kra0 =>
      go_simp
      refine wpMix_load ?vra1 rfl (fun w' hS => ?yra1) ?kra1
      case yra1 =>
        obtain ⟨g0, g1, g2, g3, g4, _⟩ := hS
        go_simp
        try rfl
      case kra1 =>
      go_simp
      refine wpMix_load ?vra2 rfl (fun w' hS => ?yra2) ?kra2
      case yra2 =>
        obtain ⟨g0, g1, g2, g3, g4, _⟩ := hS
        go_simp
        try rfl
      case kra2 =>
      go_simp
      refine wpMix_keep rfl ?_
      go_wp2_with fail
      refine HOF0.out.mono ?_
      rintro e w12 ⟨v12, rfl, hD12, hb12⟩
      have hem := empty_any _ _ _ w12 hD12 (by have := HEM0.out; omega)
      rw [decide_eq_true HEM0.out] at hem
      have HEM := Lib.hid hem
      obtain ⟨F1, F2, F3, fc1, fc2, fc3, rfl, _⟩ := hD12
      have hb12 : Below w11.heap.size w11 w12 := (Below.refl _ w11).drew.trans hb12
      have HB12 := Lib.hid hb12
      have hs12 := hb12.size
      clear hb12 hem HOF0 HEM0
      refine ⟨HCL.out.below HB12.out, ?_⟩
      refine wpMix_keep rfl ?_
      go_wp2_with fail
      refine HEM.out.mono ?_
      rintro e w13 ⟨rfl, hb13⟩
      have HB13 := Lib.hid (HB12.out.trans (hb13.mono hs12))
      have hs13 := hb13.size
      clear hb13 HEM HB12
      refine ⟨HCL.out.below HB13.out, ?_⟩
      go_simp
      refine wpMix_load ?vrb5 rfl (fun w' hS => ?yrb5) ?krb5
      case yrb5 =>
        obtain ⟨g0, g1, g2, g3, g4, _⟩ := hS
        go_simp
        try rfl
      case krb5 =>
      go_simp
      refine wpMix_load ?vrb6 rfl (fun w' hS => ?yrb6) ?krb6
      case yrb6 =>
        obtain ⟨g0, g1, g2, g3, g4, _⟩ := hS
        go_simp
        try rfl
      case krb6 =>
      go_simp
      refine wpMix_load ?vrc7 rfl (fun w' hS => ?yrc7) ?krc7
      case yrc7 =>
        obtain ⟨g0, g1, g2, g3, g4, _⟩ := hS
        go_simp
        try rfl
      case krc7 =>
      go_simp
      refine wpMix_load ?vrd9 rfl (fun w' hS => ?yrd9) ?krd9
      case yrd9 =>
        obtain ⟨g0, g1, g2, g3, g4, _⟩ := hS
        go_simp
        try rfl
      case krd9 =>
      go_simp
      refine wpMix_load ?vrd10 rfl (fun w' hS => ?yrd10) ?krd10
      case yrd10 =>
        obtain ⟨g0, g1, g2, g3, g4, _⟩ := hS
        go_simp
        try rfl
      case krd10 =>
      go_simp
      refine wpMix_load ?vre12 rfl (fun w' hS => ?yre12) ?kre12
      case yre12 =>
        obtain ⟨g0, g1, g2, g3, g4, _⟩ := hS
        go_simp
        try rfl
      case kre12 =>
      go_simp
      refine wpMix_load ?vre13 rfl (fun w' hS => ?yre13) ?kre13
      case yre13 =>
        obtain ⟨g0, g1, g2, g3, g4, _⟩ := hS
        go_simp
        try rfl
      case kre13 =>
      go_simp
      obtain ⟨q0, hq0⟩ : ∃ q0, q0 = decide (srtM L0 = srtM L1) := ⟨_, rfl⟩
      have HQ0 := Lib.hid hq0
      have hb513 := HB511.out.trans (HB13.out.mono HB511.out.size)
      have hem := empty_any _ x _ w13 (HDX.out w13 hb513) (by obtain ⟨h1, h2, h3⟩ := HXL.out; omega)
      rw [← HXL.out.1, ← HXL.out.2.1, ← HXL.out.2.2, decide_eq_decide.2 HEQ.out, ← hq0] at hem
      have HEM := Lib.hid hem
      have HB513 := Lib.hid hb513
      clear hem hb513 hq0
      refine wpMix_keep rfl ?_
      go_wp2_with fail
      refine HEM.out.mono ?_
      rintro e w14 ⟨rfl, hb14⟩
      have hb114 := HB13.out.trans (hb14.mono HB13.out.size)
      have hb514 := HB513.out.trans (hb14.mono HB513.out.size)
      have hba14 := HBA5.out.trans (hb514.mono HBA5.out.size)
      have hsa := sorted_any (Lt w14.heap.size) L0 A0 c0 w14 (by rw [← HLN.out.1]; omega) HNN.out.1 (HR0.out w14 hba14)
      rw [← HLN.out.1] at hsa
      have HSA := Lib.hid hsa
      have HB14 := Lib.hid hb114
      have HB514 := Lib.hid hb514
      have hs14 := hb14.size
      clear hb14 hb114 hb514 hba14 hsa HEM HB13 HB513
      refine ⟨HCL.out.below HB14.out, ?_⟩
      refine wpMix_keep rfl ?_
      go_wp2_with fail
      refine HSA.out.mono ?_
      rintro e w15 ⟨v15, rfl, hown15, hb15⟩
      rw [srtM_len, ← HLN.out.1] at hown15
      obtain ⟨SA, sc, rfl, _⟩ := own_slice hown15
      have hb115 := HB14.out.trans (hb15.mono HB14.out.size)
      have hb515 := HB514.out.trans (hb15.mono HB514.out.size)
      have hba15 := HBA5.out.trans (hb515.mono HBA5.out.size)
      have hsa := sorted_any (Lt w15.heap.size) L1 A1 c1 w15 (by rw [← HLN.out.2]; omega) HNN.out.2 (HR1.out w15 hba15)
      rw [← HLN.out.2] at hsa
      have HSB := Lib.hid hsa
      have HO15 := Lib.hid hown15
      have HB15 := Lib.hid hb115
      have HB515 := Lib.hid hb515
      have hs15 := hb15.size
      clear hb15 hb115 hb515 hba15 hsa hown15 HSA HB14 HB514
      refine ⟨HCL.out.below HB15.out, ?_⟩
      refine wpMix_keep rfl ?_
      go_wp2_with fail
      refine HSB.out.mono ?_
      rintro e w16 ⟨v16, rfl, hown16, hb16⟩
      rw [srtM_len, ← HLN.out.2] at hown16
      obtain ⟨TA, tc, rfl, _⟩ := own_slice hown16
      have hl0' : (srtM L0).length = a := by rw [srtM_len, HLN.out.1]
      have hl1' : (srtM L1).length = b := by rw [srtM_len, HLN.out.2]
      have hsl := sameList_any (srtM L0) (srtM L1) SA TA sc tc w16 (by rw [hl0']; omega) (Row.ofOwn ((Kp.ofBelow (M := fun _ => False) hb16).own HO15.out fun _ _ e => e) fun _ _ _ h => h) (Row.ofOwn hown16 fun _ _ _ h => h)
      rw [hl0', hl1'] at hsl
      have HSL := Lib.hid hsl
      have HB16 := Lib.hid (HB15.out.trans (hb16.mono HB15.out.size))
      have HB516 := Lib.hid (HB515.out.trans (hb16.mono HB515.out.size))
      have hs16 := hb16.size
      clear hown16 hb16 hl0' hl1' hsl HSB HO15 HB15 HB515
      refine ⟨HCL.out.below HB16.out, ?_⟩
      refine wpMix_keep rfl ?_
      go_wp2_with fail
      refine HSL.out.mono ?_
      rintro e w17 ⟨r, rfl, hr, hb17⟩
      obtain rfl : q0 = r := by
        rw [HQ0.out]
        cases r with
        | false => exact decide_eq_false fun h => by have := hr.2 h; cases this
        | true => exact decide_eq_true (hr.1 rfl)
      have hb117 := HB16.out.trans (hb17.mono HB16.out.size)
      have hb517 := HB516.out.trans (hb17.mono HB516.out.size)
      have hba17 := HBA5.out.trans (hb517.mono HBA5.out.size)
      have hom17 := (Kp.ofBelow (M := fun _ => False) hb117).own HOM.out fun _ _ e => e
      have hof := dof_any ML L1 MA' A1 mc' c1 w17 (by rw [← HMP.out.1]; omega) (by rw [← HLN.out.2]; omega) HMP.out.2.2 HNN.out.2 (Row.ofOwn hom17 fun _ _ _ h => h) (HR1.out w17 hba17)
      rw [ofM_congr HMP.out.2.1 (List.Perm.refl L1), ← HX.out, ← HMP.out.1, ← HLN.out.2] at hof
      have HOF := Lib.hid hof
      have HB17 := Lib.hid hb117
      have HB517 := Lib.hid hb517
      have hs17 := hb17.size
      clear hr hb17 hb117 hb517 hba17 hom17 hof HSL HB16 HB516
      refine ⟨HCL.out.below HB17.out, ?_⟩
      go_simp
      refine wpMix_load (.bool false) rfl (fun w' hS => ?yq16) ?kq16
      case yq16 =>
        go_simp
      case kq16 =>
      go_simp
      refine wpMix_load ?vrf17 rfl (fun w' hS => ?yrf17) ?krf17
      case yrf17 =>
        obtain ⟨g0, g1, g2, g3, g4, _⟩ := hS
        go_simp
        try rfl
      case krf17 =>
      go_simp
      refine wpMix_load ?vrf18 rfl (fun w' hS => ?yrf18) ?krf18
      case yrf18 =>
        obtain ⟨g0, g1, g2, g3, g4, _⟩ := hS
        go_simp
        try rfl
      case krf18 =>
      go_simp
      refine wpMix_load ?vrf19 rfl (fun w' hS => ?yrf19) ?krf19
      case yrf19 =>
        obtain ⟨g0, g1, g2, g3, g4, _⟩ := hS
        go_simp
        try rfl
      case krf19 =>
      go_simp
      refine wpMix_load ?vrf20 rfl (fun w' hS => ?yrf20) ?krf20
      case yrf20 =>
        obtain ⟨g0, g1, g2, g3, g4, _⟩ := hS
        go_simp
        try rfl
      case krf20 =>
      go_simp
      refine wpMix_load ?vrf21 rfl (fun w' hS => ?yrf21) ?krf21
      case yrf21 =>
        obtain ⟨g0, g1, g2, g3, g4, _⟩ := hS
        go_simp
        try rfl
      case krf21 =>
      go_simp
      refine wpMix_load ?vrg23 rfl (fun w' hS => ?yrg23) ?krg23
      case yrg23 =>
        obtain ⟨g0, g1, g2, g3, g4, _⟩ := hS
        go_simp
        try rfl
      case krg23 =>
      go_simp
      refine wpMix_keep rfl ?_
      go_wp2_with fail
      refine HOF.out.mono ?_
      rintro e w18 ⟨v18, rfl, hD18, hb18⟩
      have hD18 := hD18.more (S' := Lt w18.heap.size) fun y hy => hy.2
      have hb118 := HB17.out.trans (hb18.mono HB17.out.size)
      have hb518 := HB517.out.trans (hb18.mono HB517.out.size)
      have hsm := same_any x x _ _ w18 hD18 (HDX.out w18 hb518) (by obtain ⟨h1, h2, h3⟩ := HXL.out; omega)
      have HSM := Lib.hid hsm
      have HB18 := Lib.hid hb118
      have HB518 := Lib.hid hb518
      have hs18 := hb18.size
      obtain ⟨G1, G2, G3, gc1, gc2, gc3, rfl, _⟩ := hD18
      clear hb18 hb118 hb518 hsm HOF HB17 HB517
      refine ⟨HCL.out.below HB18.out, ?_⟩
      refine wpMix_keep rfl ?_
      go_wp2_with fail
      refine HSM.out.mono ?_
      rintro e w19 ⟨r, rfl, hr, hb19⟩
      obtain rfl : r = true := by simpa using hr
      have HC19 := Lib.hid (HCL.out.below (HB18.out.trans (hb19.mono HB18.out.size)))
      have HB519 := Lib.hid (HB518.out.trans (hb19.mono HB518.out.size))
      have hs19 := hb19.size
      clear hr hb19 HSM HB18 HB518 HCL HQ0
      refine ⟨HC19.out, ?_⟩
      refine wpMix_nil ?_
      simp only [opsAt, List.filterMap_cons, List.filterMap_nil, List.getElem?_toArray, List.getElem?_cons_succ, List.getElem?_cons_zero]
      go_wp2
      refine NoPanic.normal ?_
      obtain ⟨x0, x1, x2, p0, p1, _⟩ := HC19.out
      go_wp2_with fail
      clear x0 x1 x2 p0 p1 HOM HNN HMP HX HEQ HLN HDX HR0 HR1
      have HX19 := HC19
      go_loopw [121] (fun i wr => ∃ u : Nat, u ≤ xg ∧ i = .int .i64 u ∧ Below w19.heap.size w19 wr) (fun i _ => xg - (intOf i).toNat)
      case atStart => exact ⟨0, by omega, rfl, Below.refl _ _⟩
      case round =>
        obtain ⟨u, hu, rfl, hBo⟩ := hrel
        obtain ⟨wu, hwu⟩ : ∃ wu, wu = wr := ⟨_, rfl⟩
        rw [← hwu] at hBo ⊢
        clear hwu
        have hb5u := HB519.out.trans (hBo.mono HB519.out.size)
        by_cases hltu : u < xg
        · obtain ⟨ma, hma⟩ : ∃ v, x.gone[u]? = some v := ⟨_, List.getElem?_eq_getElem (by rw [← HXL.out.1]; exact hltu)⟩
          obtain ⟨ad, hA, _, a0, a1, a2⟩ := ms_at (HXR.out wu hb5u).1 hma
          have hiu : (0 : Int) ≤ (u : Int) ∧ (u : Int) < (xg : Int) := ⟨by omega, by omega⟩
          obtain ⟨wq, hwq⟩ : ∃ wq, wq = wu.alloc (.cells #[.int .i64 ma.1, .int .i64 ma.2.1, sv ma.2.2] 40) := ⟨_, rfl⟩
          have hbq : Below wu.heap.size wu wq := by rw [hwq]; exact (Below.refl _ _).alloc (Nat.le_refl _) _
          have hxq : wq.heap[wu.heap.size]? = some (.cells #[.int .i64 ma.1, .int .i64 ma.2.1, sv ma.2.2] 40 (0, 0)) := by rw [hwq]; exact alloc1 _ _
          have hb19q := hBo.trans (hbq.mono hBo.size)
          obtain ⟨_, x1, _⟩ := HX19.out.below hBo
          have hlx := block_lt_of_cell x1
          rw [hA]
          have HAD := Lib.hid hA
          have HMA := Lib.hid (List.mem_of_getElem? hma)
          have HWQ := Lib.hid hwq
          have HXQ := Lib.hid hxq
          have HB19 := Lib.hid hb19q
          clear hma hA hwq hxq hbq hb19q hb5u hBo
          go_wp2_with fail
          rw [← HWQ.out]
          clear x1 a0 a1 a2 hlx
          go_loopw [128] (fun i wr => ∃ t : Nat, t ≤ xc ∧ i = .int .i64 t ∧ Below wq.heap.size wq wr) (fun i _ => xc - (intOf i).toNat)
          case atStart => exact ⟨0, by omega, rfl, Below.refl _ _⟩
          case round =>
            obtain ⟨t, ht, rfl, hBi⟩ := hrel
            have hb19 := HB19.out.trans (hBi.mono HB19.out.size)
            have hb5 := HB519.out.trans (hb19.mono HB519.out.size)
            by_cases hltt : t < xc
            · obtain ⟨mb, hmb⟩ : ∃ v, x.come[t]? = some v := ⟨_, List.getElem?_eq_getElem (by rw [← HXL.out.2.1]; exact hltt)⟩
              obtain ⟨be, hA2, _, b0, b1, b2⟩ := ms_at (HXR.out wr hb5).2.1 hmb
              have hit : (0 : Int) ≤ (t : Int) ∧ (t : Int) < (xc : Int) := ⟨by omega, by omega⟩
              have hap := HPA.out ma HMA.out mb (List.mem_of_getElem? hmb)
              obtain ⟨_, q1, q2⟩ := ms_blk ((hBi.block _ (lt_of_heap HXQ.out)).trans HXQ.out) rfl
              have hlq := block_lt_of_cell q1
              have hbn := hBi.trans (((Below.refl wr.heap.size wr).alloc (Nat.le_refl _) (.cells #[.int .i64 mb.1, .int .i64 mb.2.1, sv mb.2.2] 40)).mono hBi.size)
              have HBN := Lib.hid hbn
              rw [hA2]
              have HAE := Lib.hid hA2
              clear hmb hA2 hBi hb19 hb5 hbn
              by_cases hcd : ma.2.1 = mb.2.1
              · have htx : ¬ ma.2.2 = mb.2.2 := fun h => hap (Prod.ext hcd h)
                have hq1 : (ma.2.1 == mb.2.1) = true := by simp [hcd]
                have hq2 : (ma.2.2 == mb.2.2) = false := by simp [htx]
                have hq3 : decide (ma.2.1 = mb.2.1) = true := by simp [hcd]
                have hq4 : decide (ma.2.2 = mb.2.2) = false := by simp [htx]
                have hq5 : ((bs ma.2.2).toList == (bs mb.2.2).toList) = false := by simp [bs_toList, htx]
                clear hap hcd htx
                go_wp2_with fail
                refine ⟨?rel, ?measure⟩
                case rel => exact ⟨t + 1, by omega, by go_num, HBN.out⟩
                case measure => simp [intOf]; omega
              · have hq1 : (ma.2.1 == mb.2.1) = false := by simp [hcd]
                have hq3 : decide (ma.2.1 = mb.2.1) = false := by simp [hcd]
                clear hap hcd
                go_wp2_with fail
                refine ⟨?rel, ?measure⟩
                case rel => exact ⟨t + 1, by omega, by go_num, HBN.out⟩
                case measure => simp [intOf]; omega
            · obtain rfl : t = xc := by omega
              have HBI := Lib.hid hb19
              clear hBi hb19 hb5 hltt
              go_wp2_with fail
              try rw [← HAD.out]
              first | go_roundw | refine ⟨?rel, ?measure⟩
              case rel => exact ⟨u + 1, by omega, by go_num, HBI.out⟩
              case measure => simp [intOf]; omega
        · obtain rfl : u = xg := by omega
          obtain ⟨_, _, x2, _⟩ := HX19.out.below hBo
          have HBU := Lib.hid hb5u
          clear hBo hb5u hltu
          go_wp2_with fail
          clear x2
          go_loopw [149] (fun i wr => ∃ t : Nat, t ≤ xm ∧ i = .int .i64 t ∧ Below wu.heap.size wu wr) (fun i _ => xm - (intOf i).toNat)
          case atStart => exact ⟨0, by omega, rfl, Below.refl _ _⟩
          case round =>
            obtain ⟨t, ht, rfl, hBi⟩ := hrel
            have hb5 := HBU.out.trans (hBi.mono HBU.out.size)
            by_cases hltt : t < xm
            · obtain ⟨v, hv⟩ : ∃ v, x.moved[t]? = some v := ⟨_, List.getElem?_eq_getElem (by rw [← HXL.out.2.2]; exact hltt)⟩
              obtain ⟨be, hA2, _, b0, b1, b2, b3, b4⟩ := mv_at (HXR.out wr hb5).2.2 hv
              have hit : (0 : Int) ≤ (t : Int) ∧ (t : Int) < (xm : Int) := ⟨by omega, by omega⟩
              obtain ⟨hne, heq⟩ := HMV.out v (List.mem_of_getElem? hv)
              have hbn := hBi.trans (((Below.refl wr.heap.size wr).alloc (Nat.le_refl _) (.cells #[.int .i64 v.1, .int .i64 v.2.1, .int .i64 v.2.2.1, .int .i64 v.2.2.2.1, sv v.2.2.2.2] 42)).mono hBi.size)
              have HBN := Lib.hid hbn
              rw [hA2]
              have HAE := Lib.hid hA2
              have hq1 : (v.1 == v.2.1) = false := by simp [hne]
              have hq3 : decide (v.1 = v.2.1) = false := by simp [hne]
              have hq2 : (v.2.1 != v.2.2.1) = false := by simp [heq]
              have hq5 : (v.2.1 == v.2.2.1) = true := by simp [heq]
              have hq4 : decide (v.2.1 = v.2.2.1) = true := by simp [heq]
              clear hv hA2 hBi hb5 hbn hne heq
              go_wp2_with fail
              refine ⟨?rel, ?measure⟩
              case rel => exact ⟨t + 1, by omega, by go_num, HBN.out⟩
              case measure => simp [intOf]; omega
            · obtain rfl : t = xm := by omega
              have hba := HBA5.out.trans (hb5.mono HBA5.out.size)
              have HEND := Lib.hid (HBA.out.trans (hba.mono HBA.out.size))
              clear hBi hb5 hltt hba
              go_wp2_with fail
              first | go_roundw | refine ⟨?rel, ?measure⟩
              case rel => exact ⟨k + 1, by omega, by go_num, HEND.out⟩
              case measure => simp [intOf]; omega
    · have HB := Lib.hid (HB4.out.trans (hB.mono HB4.out.size))
      have HAW := Lib.hid (awake_any wr)
      obtain rfl : k = 2 := by omega
      clear hB hlt
      go_wp2_with fail
      refine HAW.out.mono ?_
      rintro e w9 ⟨rfl, hb9⟩
      have HE := Lib.hid (HB.out.trans (hb9.mono HB.out.size))
      clear hb9 HAW
      go_wp2
      go_ret
      exact ⟨rfl, HE.out⟩
end Go.Proofs.Ytlgdminpkkhejaa
