/-
  The walk of law40's DeltaActs.
  Conditions: the messages, the difference and the numbers lie in memory.
-/
import Derived.Test.YtlgdminpkkhejaaDtEo
import Derived.Test.YtlgdminpkkhejaaDtEa
import Derived.Test.YtlgdminpkkhejaaDtN
import Derived.Test.YtlgdminpkkhejaaBfull
namespace Go.Proofs.Ytlgdminpkkhejaa
open Go.RowKit

/-- Messages in a slice. -/
def SlM (w : World) (v : Value) (l : List Msg) : Prop := ∃ (A : Option Addr) (c : Nat), v = .slice A l.length c ∧ (A = none → c = 0) ∧ l.length ≤ c ∧ Row w (Lt w.heap.size) A (flt msC l)
theorem SlM.below {w w' : World} {v : Value} {l : List Msg} (h : SlM w v l) (hb : Below w.heap.size w w') : SlM w' v l := by
  obtain ⟨A, c, e, h1, h2, h3⟩ := h
  exact ⟨A, c, e, h1, h2, h3.below hb⟩
theorem SlM.own {w : World} {base : Nat} {v : Value} {l : List Msg} (h : w.ownsRow base 40 3 v l.length (flt msC l)) : SlM w v l := by
  obtain ⟨A, c, rfl, hn⟩ := own_slice h
  exact ⟨A, c, rfl, hn, (own_le h).1, Row.ofOwn h fun _ _ _ h => h⟩
theorem SlM.kept {w w' : World} {M : Nat → Prop} {v : Value} {l : List Msg} (h : SlM w v l) (hk : Kp M w w') (hM : ∀ y, M y → w.heap.size ≤ y) : SlM w' v l := by
  obtain ⟨A, c, e, h1, h2, h3⟩ := h
  exact ⟨A, c, e, h1, h2, h3.kept hk hM⟩
theorem dl_own {d : Dl} {b1 b2 b3 : Nat} {w' : World} {v1 v2 v3 : Value} (h1 : w'.ownsRow b1 40 3 v1 d.gone.length (flt msC d.gone)) (h2 : w'.ownsRow b2 40 3 v2 d.come.length (flt msC d.come)) (h3 : w'.ownsRow b3 42 5 v3 d.moved.length (flt mvC d.moved)) : DlV w' (Lt w'.heap.size) (.agg #[v1, v2, v3]) d := by
  obtain ⟨A1, c1, rfl, n1⟩ := own_slice h1
  obtain ⟨A2, c2, rfl, n2⟩ := own_slice h2
  obtain ⟨A3, c3, rfl, n3⟩ := own_slice h3
  exact ⟨A1, A2, A3, c1, c2, c3, rfl, n1, n2, (own_le h1).1, (own_le h2).1, (own_le h3).1, Row.ofOwn h1 fun _ _ _ h => h, Row.ofOwn h2 fun _ _ _ h => h, Row.ofOwn h3 fun _ _ _ h => h⟩
theorem apply_len {L l : List Msg} {d : Dl} (h : applyM L d = some l) : l.length ≤ L.length + d.come.length + d.moved.length := by
  unfold applyM at h
  split at h
  · obtain rfl := Option.some.inj h
    have h1 := (dif_sub (awayM d) (srtM L)).length_le
    rw [srtM_len] at h1
    rw [srtM_len, List.length_append]
    unfold moreM
    rw [List.length_append, List.length_map]
    omega
  · cases h
/-- The cells of a pair of lists. -/
def prC (P : Nat) (A0 A1 : Option Addr) (a b c0 c1 : Nat) : List (Addr × Value) := [(⟨P, 0, none⟩, .slice A0 a c0), (⟨P, 1, none⟩, .slice A1 b c1)]
set_option maxHeartbeats 6400000 in
set_option maxRecDepth 100000 in
theorem acts_light (raw more : List Msg) (x : Dl) (rv mv xv : Value) (xs : List Int) (A : Option Addr) (c : Nat) (what by_ : Int) (w : World) (hr : SlM w rv raw) (hm : SlM w mv more) (hx : DlV w (Lt w.heap.size) xv x) (hrl : raw.length ≤ 40) (hml : more.length ≤ 40) (hxl : x.gone.length + x.come.length + x.moved.length ≤ 60)
    (hA : Row w (Lt w.heap.size) A (xs.map (Value.int .i64))) (hn : xs.length ≤ 400) (hf : ∀ x ∈ xs, -9223372036854775808 ≤ x ∧ x ≤ 9223372036854775807) (hwh : -9223372036854775808 ≤ what ∧ what ≤ 9223372036854775807) (hby : -9223372036854775808 ≤ by_ ∧ by_ ≤ 9223372036854775807) :
    Calls Try.prog 3 #[rv, mv, xv, .slice A xs.length c, .int .i64 what, .int .i64 by_] w fun e w' => e = .returned (.bool true) ∧ Below w.heap.size w w' := by
  obtain ⟨i0, hi, hz0, hz1, hz2⟩ := info_parts infoMs
  obtain ⟨i5, hj, hy0, hy1, hy2⟩ := info_parts infoMv
  have hxk := hx
  obtain ⟨X1, X2, X3, xc1, xc2, xc3, rfl, _⟩ := hxk
  obtain ⟨xg, hxg⟩ : ∃ n, n = x.gone.length := ⟨_, rfl⟩
  obtain ⟨xc, hxc⟩ : ∃ n, n = x.come.length := ⟨_, rfl⟩
  obtain ⟨xm, hxm⟩ : ∃ n, n = x.moved.length := ⟨_, rfl⟩
  obtain ⟨w0, hw0⟩ : ∃ w0, w0 = w.alloc (.cells #[.slice X1 x.gone.length xc1, .slice X2 x.come.length xc2, .slice X3 x.moved.length xc3] 25) := ⟨_, rfl⟩
  have hb0 : Below w.heap.size w w0 := by rw [hw0]; exact (Below.refl _ _).alloc (Nat.le_refl _) _
  have hx0 : w0.heap[w.heap.size]? = some (.cells #[.slice X1 x.gone.length xc1, .slice X2 x.come.length xc2, .slice X3 x.moved.length xc3] 25 (0, 0)) := by rw [hw0]; exact alloc1 _ _
  have HLI := Lib.hid (light_any xs.length A c w0)
  rw [decide_eq_true hn] at HLI
  have HRO := Lib.hid (roll_any xs A c w0 (hA.below hb0) hn hf)
  obtain ⟨z, hz⟩ : ∃ z, z = xs.length := ⟨_, rfl⟩
  rw [← hz] at HLI HRO ⊢
  have HXV := Lib.hid fun w' (hb : Below w0.heap.size w0 w') => (hx.below hb0).below hb
  have HRW := Lib.hid (hr.below hb0)
  have HMO := Lib.hid (hm.below hb0)
  obtain ⟨RA, rc, rfl, _⟩ := hr
  obtain ⟨MA, mc, rfl, _⟩ := hm
  have HRL := Lib.hid (And.intro hrl hml)
  obtain ⟨r, hrn⟩ : ∃ r, r = raw.length := ⟨_, rfl⟩
  obtain ⟨q, hqn⟩ : ∃ q, q = more.length := ⟨_, rfl⟩
  rw [← hrn] at hrl HRW ⊢
  rw [← hqn] at hml HMO ⊢
  rw [← hxg, ← hxc, ← hxm] at hw0 hx0 HXV hxl ⊢
  have hq1 : decide ((40 : Int) < (r : Int)) = false := by simp; omega
  have hq2 : decide ((40 : Int) < (q : Int)) = false := by simp; omega
  have hq3 : ¬ 40 < r := by omega
  have hq4 : ¬ 40 < q := by omega
  have hq5 : decide ((60 : Int) < (xg : Int) + (xc : Int) + (xm : Int)) = false := by simp; omega
  have hq6 : ¬ 60 < xg + xc + xm := by omega
  have hq7 : ¬ (60 : Int) < (xg : Int) + (xc : Int) + (xm : Int) := by omega
  have HX0 := Lib.hid hx0
  have HB0 := Lib.hid hb0
  have HW0 := Lib.hid hw0
  have HWH := Lib.hid hwh
  have HBY := Lib.hid hby
  have HXN := Lib.hid (And.intro hxg (And.intro hxc hxm))
  clear hA hn hz hf hrn hqn hwh hby hx0 hb0 hw0 hx hxg hxc hxm
  go_enter Try.func3, Try.ntmps3
  go_wp2_with fail
  rw [← HW0.out]
  refine HLI.out.mono ?_
  rintro e w9 ⟨rfl, rfl⟩
  go_wp2_with fail
  refine HRO.out.mono ?_
  rintro e w1 ⟨rfl, hD1, hb1⟩
  have HB1 := Lib.hid hb1
  have hs1 := hb1.size
  have hd1 := hD1.lt
  have HM1 := Lib.hid (msgs_any 8 w0.heap.size xs w1 (by decide) hD1)
  clear hD1 hb1 HRO HLI hq1 hq2 hq3 hq4 hq5 hq6 hq7
  go_wp2_with fail
  refine HM1.out.mono ?_
  rintro e w2 ⟨v2, old, rfl, hown2, hol, _, hD2, hK2⟩
  have HO2 := Lib.hid hown2
  obtain ⟨OA, oc, rfl, hon⟩ := own_slice hown2
  have HB2 := Lib.hid (kp_below HB1.out hK2 fun y e => by omega)
  have HM2 := Lib.hid (msgs_any 8 w0.heap.size xs w2 (by decide) hD2)
  have hs2 := hK2.size
  clear hD2 hK2 HM1 hown2 hon
  go_wp2_with fail
  refine HM2.out.mono ?_
  rintro e w3 ⟨v3, now, rfl, hown3, hnl, _, hD3, hK3⟩
  have HN3 := Lib.hid (SlM.own hown3)
  obtain ⟨NA, nc, rfl, hnn⟩ := own_slice hown3
  have hB3 := kp_below HB2.out hK3 fun y e => by omega
  have HO3 := Lib.hid (SlM.own (hK3.own HO2.out fun g hg e => by have := (HO2.out.lt g hg).1; have e : g = w0.heap.size := e; omega))
  have hs3 := hK3.size
  have HR3 := Lib.hid (HRW.out.below hB3)
  have HM3 := Lib.hid (HMO.out.below hB3)
  have HB3 := Lib.hid hB3
  have HNL := Lib.hid (And.intro hol hnl)
  obtain ⟨n, hn⟩ : ∃ n, n = old.length := ⟨_, rfl⟩
  obtain ⟨p, hp⟩ : ∃ p, p = now.length := ⟨_, rfl⟩
  rw [← hn] at HO3 hol ⊢
  rw [← hp] at HN3 hnl ⊢
  have HNP := Lib.hid (And.intro hn hp)
  have hpc : p ≤ nc := by rw [hp]; exact (own_le hown3).1
  have hkc : (0 : Int) ≤ (p : Int) ∧ (p : Int) ≤ (nc : Int) ∧ (p : Int) ≤ (p : Int) := ⟨by omega, by omega, by omega⟩
  clear hD3 hK3 hB3 HM2 hown3 HO2 HB2 HB1 hn hp hnn HRW HMO
  have hON : OA = none → n = 0 := fun e => by
    obtain ⟨A', c', e', h1, h2, _⟩ := HO3.out
    obtain ⟨rfl, hl', rfl⟩ : OA = A' ∧ n = old.length ∧ oc = c' := by simpa using e'
    have := h1 e
    omega
  have hNN : NA = none → p = 0 := fun e => by
    obtain ⟨A', c', e', h1, h2, _⟩ := HN3.out
    obtain ⟨rfl, hl', rfl⟩ : NA = A' ∧ p = now.length ∧ nc = c' := by simpa using e'
    have := h1 e
    omega
  have hROW : Row w3 (Lt w3.heap.size) OA (flt msC old) ∧ Row w3 (Lt w3.heap.size) NA (flt msC now) := by
    obtain ⟨A', c', e', _, _, h3⟩ := HO3.out
    obtain ⟨A2, c2, e2, _, _, h4⟩ := HN3.out
    obtain ⟨rfl, _, _⟩ : OA = A' ∧ n = old.length ∧ oc = c' := by simpa using e'
    obtain ⟨rfl, _, _⟩ : NA = A2 ∧ p = now.length ∧ nc = c2 := by simpa using e2
    exact ⟨h3, h4⟩
  have HROW := Lib.hid hROW
  have HNA := Lib.hid (And.intro hON hNN)
  clear hON hNN hROW
  go_wp2_with (at_builtin; refine wpList_append_full rfl _ _ 22 rfl 40 i0 _ 3 32 Try.underlying22 hi hz0 hz1 hz2 (by omega) NA p (flt msC now) rfl (by rw [flt_length msC_len, HNP.out.2]) HNA.out.2 HROW.out.2 OA n oc (flt msC old) rfl (by rw [flt_length msC_len, HNP.out.1]) HNA.out.1 HROW.out.1 (flt_one' msC_one _) (by unfold maxLen; omega) (by omega) ?_)
  rintro v73 w4 ⟨BA, bc, rfl, hbn, hbc, hbr, hb4⟩
  rw [← flt_append] at hbr
  have hBM : SlM w4 (.slice BA (p + n) bc) (now ++ old) := ⟨BA, bc, by rw [List.length_append, ← HNP.out.1, ← HNP.out.2], hbn, by rw [List.length_append, ← HNP.out.1, ← HNP.out.2]; exact hbc, hbr⟩
  obtain ⟨w5, hw5⟩ : ∃ w5, w5 = w4.alloc (.cells #[.slice OA n oc, .slice NA p nc, .slice RA r rc, .slice MA q mc, .slice OA n oc, .slice BA (p + n) bc, .slice RA r rc, .slice NA p nc] 32) := ⟨_, rfl⟩
  have hb5 : Below w4.heap.size w4 w5 := by rw [hw5]; exact (Below.refl _ _).alloc (Nat.le_refl _) _
  have hx5 : w5.heap[w4.heap.size]? = some (.cells #[.slice OA n oc, .slice NA p nc, .slice RA r rc, .slice MA q mc, .slice OA n oc, .slice BA (p + n) bc, .slice RA r rc, .slice NA p nc] 32 (0, 0)) := by rw [hw5]; exact alloc1 _ _
  have hb35 := hb4.trans (hb5.mono hb4.size)
  have HIT : Hid (∀ (k : Nat) (w' : World), k < 4 → Below w5.heap.size w5 w' → ∃ (v0 v1 : Value) (L0 L1 : List Msg), w'.cell? ⟨w4.heap.size, k * 2, none⟩ = some v0 ∧ w'.cell? ⟨w4.heap.size, k * 2 + 1, none⟩ = some v1 ∧ SlM w' v0 L0 ∧ SlM w' v1 L1 ∧ L0.length ≤ 40 ∧ L1.length ≤ 40) := Lib.hid fun k w' hk hb => by
    have hx := (hb.block _ (lt_of_heap hx5)).trans hx5
    have h1 := HNL.out
    have h2 := HRL.out
    obtain rfl | rfl | rfl | rfl : k = 0 ∨ k = 1 ∨ k = 2 ∨ k = 3 := by omega
    · exact ⟨_, _, old, now, (Lib.cell_of_heap hx _).trans rfl, (Lib.cell_of_heap hx _).trans rfl, (HO3.out.below hb35).below hb, (HN3.out.below hb35).below hb, by omega, by omega⟩
    · exact ⟨_, _, raw, more, (Lib.cell_of_heap hx _).trans rfl, (Lib.cell_of_heap hx _).trans rfl, (HR3.out.below hb35).below hb, (HM3.out.below hb35).below hb, h2.1, h2.2⟩
    · exact ⟨_, _, old, now ++ old, (Lib.cell_of_heap hx _).trans rfl, (Lib.cell_of_heap hx _).trans rfl, (HO3.out.below hb35).below hb, (hBM.below hb5).below hb, by omega, by rw [List.length_append]; omega⟩
    · exact ⟨_, _, raw, now, (Lib.cell_of_heap hx _).trans rfl, (Lib.cell_of_heap hx _).trans rfl, (HR3.out.below hb35).below hb, (HN3.out.below hb35).below hb, h2.1, by omega⟩
  have HO5 := Lib.hid (HO3.out.below hb35)
  have HN5 := Lib.hid (HN3.out.below hb35)
  have HR5 := Lib.hid (HR3.out.below hb35)
  have HW5 := Lib.hid hw5
  have HB5 := Lib.hid (HB3.out.trans (hb35.mono HB3.out.size))
  have hs5 : w4.heap.size < w5.heap.size := by rw [hw5]; simp
  have hs34 := hb4.size
  clear hbn hbc hbr hb4 hBM hw5 hb5 hx5 hb35 HO3 HN3 HR3 HM3 HROW HNA hkc hpc HB3
  go_wp2_with fail
  rw [← HW5.out]
  go_loopw [80] (fun i wr => ∃ k : Nat, k ≤ 4 ∧ i = .int .i64 k ∧ Below w5.heap.size w5 wr) (fun i _ => 4 - (intOf i).toNat)
  case atStart => exact ⟨0, by omega, rfl, Below.refl _ _⟩
  case round =>
    obtain ⟨k, hk2, rfl, hB⟩ := hrel
    by_cases hlt : k < 4
    · obtain ⟨v0, v1, L0, L1, p0, p1, hS0, hS1, hl0, hl1⟩ := HIT.out k wr hlt hB
      obtain ⟨A0, c0, rfl, hn0, hc0, hr0⟩ := id hS0
      obtain ⟨A1, c1, rfl, hn1, hc1, hr1⟩ := id hS1
      have hik : (0 : Int) ≤ (k : Int) ∧ (k : Int) < 4 := ⟨by omega, by omega⟩
      obtain ⟨wa, hwa⟩ : ∃ wa, wa = wr.alloc (.cells #[.slice A0 L0.length c0, .slice A1 L1.length c1] 32) := ⟨_, rfl⟩
      have hba : Below wr.heap.size wr wa := by rw [hwa]; exact (Below.refl _ _).alloc (Nat.le_refl _) _
      have hxa : wa.heap[wr.heap.size]? = some (.cells #[.slice A0 L0.length c0, .slice A1 L1.length c1] 32 (0, 0)) := by rw [hwa]; exact alloc1 _ _
      have HBA := Lib.hid (hB.trans (hba.mono hB.size))
      have HR0 := Lib.hid fun w' (hb : Below wa.heap.size wa w') => (hr0.below hba).below hb
      have HR1 := Lib.hid fun w' (hb : Below wa.heap.size wa w') => (hr1.below hba).below hb
      obtain ⟨a, ha⟩ : ∃ a, a = L0.length := ⟨_, rfl⟩
      obtain ⟨b, hb⟩ : ∃ b, b = L1.length := ⟨_, rfl⟩
      rw [← ha] at hl0 hc0 p0 hwa hxa
      rw [← hb] at hl1 hc1 p1 hwa hxa
      have HC : Hid (AtCells (prC wr.heap.size A0 A1 a b c0 c1) wa) := Lib.hid ⟨(Lib.cell_of_heap hxa 0).trans rfl, (Lib.cell_of_heap hxa 1).trans rfl, trivial⟩
      have HLN := Lib.hid (And.intro ha hb)
      have HNN := Lib.hid (And.intro hn0 hn1)
      have HWA := Lib.hid hwa
      clear hS0 hS1 hr0 hr1 ha hb hwa hba hxa hB hn0 hn1
      go_wp2_with fail
      rw [← HWA.out]
      clear p0 p1
      refine wp_region_mix (AtCells (prC wr.heap.size A0 A1 a b c0 c1)) [(true, 0), (true, 1), (true, 3), (true, 4), (false, 2), (false, 5), (false, 6), (true, 7), (true, 8), (true, 9), (true, 10), (true, 11), (true, 12), (true, 14), (true, 15), (true, 16), (true, 17), (false, 13), (false, 18), (false, 19), (true, 20), (true, 21)] [] (by kernel_rfl) (by kernel_rfl) ?sm ?hm
      case sm => exact HC.out.below (Below.refl _ wa).drew
      case hm =>
      simp only [mixAt, List.filterMap_cons, List.filterMap_nil, List.getElem?_toArray, List.getElem?_cons_succ, List.getElem?_cons_zero, Option.map_some]
      refine wpMix_load ?vma0 rfl (fun w' hS => ?yma0) ?kma0
      case yma0 =>
        obtain ⟨g0, g1, _⟩ := hS
        go_simp
        try rfl
      case kma0 =>
      go_simp
      refine wpMix_load ?vma1 rfl (fun w' hS => ?yma1) ?kma1
      case yma1 =>
        obtain ⟨g0, g1, _⟩ := hS
        go_simp
        try rfl
      case kma1 =>
      go_simp
      refine wpMix_load ?vmb3 rfl (fun w' hS => ?ymb3) ?kmb3
      case ymb3 =>
        obtain ⟨g0, g1, _⟩ := hS
        go_simp
        try rfl
      case kmb3 =>
      go_simp
      refine wpMix_load ?vmb4 rfl (fun w' hS => ?ymb4) ?kmb4
      case ymb4 =>
        obtain ⟨g0, g1, _⟩ := hS
        go_simp
        try rfl
      case kmb4 =>
      go_simp
      have hso := sorted_any (Lt wa.drew.heap.size) L0 A0 c0 wa.drew (by rw [← HLN.out.1]; omega) HNN.out.1 (HR0.out wa.drew (Below.refl _ wa).drew)
      rw [← HLN.out.1] at hso
      refine wpMix_keep rfl ?_
      go_wp2_with fail
      refine hso.mono ?_
      clear hso
      rintro e w6 ⟨v6, rfl, hown6, hb6⟩
      have hb6 : Below wa.heap.size wa w6 := (Below.refl _ wa).drew.trans hb6
      have hl6 : (srtM L0).length = a := by rw [srtM_len, HLN.out.1]
      have hs6 := hb6.size
      have HO6 := Lib.hid hown6
      have HB6 := Lib.hid hb6
      have hso := rsorted_any (Lt w6.heap.size) L0 A0 c0 w6 (fun _ h => h) (by rw [← HLN.out.1]; omega) (HR0.out w6 hb6)
      rw [← HLN.out.1] at hso
      have HSO := Lib.hid hso
      obtain ⟨SA, sc, rfl, _⟩ := own_slice hown6
      rw [hl6] at HO6 ⊢
      clear hown6 hb6 hso
      refine ⟨HC.out.below HB6.out, ?_⟩
      refine wpMix_keep rfl ?_
      go_wp2_with fail
      refine HSO.out.mono ?_
      rintro e w7 ⟨v7, rfl, hown7, hb7⟩
      have hb67 := HB6.out.trans (hb7.mono HB6.out.size)
      have HB7 := Lib.hid hb67
      have hs7 := hb7.size
      obtain ⟨TA, tc, rfl, _⟩ := own_slice hown7
      have hsl := sameList_any (srtM L0) (srtM L0) SA TA sc tc w7 (by rw [hl6]; omega) (Row.ofOwn ((Kp.ofBelow (M := fun _ => False) hb7).own HO6.out fun _ _ e => e) fun _ _ _ h => h) (Row.ofOwn hown7 fun _ _ _ h => h)
      rw [hl6] at hsl ⊢
      have HSL := Lib.hid hsl
      clear hown7 hb7 hb67 hsl HSO HO6 HB6
      refine ⟨HC.out.below HB7.out, ?_⟩
      refine wpMix_keep rfl ?_
      go_wp2_with fail
      refine HSL.out.mono ?_
      rintro e w8 ⟨r8, rfl, hr8, hb8⟩
      obtain rfl : r8 = true := by simpa using hr8
      have HB8 := Lib.hid (HB7.out.trans (hb8.mono HB7.out.size))
      clear hr8 hb8 HSL HB7 hl6
      refine ⟨HC.out.below HB8.out, ?_⟩
      go_simp
      refine wpMix_load ?vmc7 rfl (fun w' hS => ?ymc7) ?kmc7
      case ymc7 =>
        obtain ⟨g0, g1, _⟩ := hS
        go_simp
        try rfl
      case kmc7 =>
      go_simp
      refine wpMix_load ?vmc8 rfl (fun w' hS => ?ymc8) ?kmc8
      case ymc8 =>
        obtain ⟨g0, g1, _⟩ := hS
        go_simp
        try rfl
      case kmc8 =>
      go_simp
      refine wpMix_load ?vmc9 rfl (fun w' hS => ?ymc9) ?kmc9
      case ymc9 =>
        obtain ⟨g0, g1, _⟩ := hS
        go_simp
        try rfl
      case kmc9 =>
      go_simp
      refine wpMix_load ?vmc10 rfl (fun w' hS => ?ymc10) ?kmc10
      case ymc10 =>
        obtain ⟨g0, g1, _⟩ := hS
        go_simp
        try rfl
      case kmc10 =>
      go_simp
      refine wpMix_load ?vmc11 rfl (fun w' hS => ?ymc11) ?kmc11
      case ymc11 =>
        obtain ⟨g0, g1, _⟩ := hS
        go_simp
        try rfl
      case kmc11 =>
      go_simp
      refine wpMix_load ?vmc12 rfl (fun w' hS => ?ymc12) ?kmc12
      case ymc12 =>
        obtain ⟨g0, g1, _⟩ := hS
        go_simp
        try rfl
      case kmc12 =>
      go_simp
      refine wpMix_load ?vmd14 rfl (fun w' hS => ?ymd14) ?kmd14
      case ymd14 =>
        obtain ⟨g0, g1, _⟩ := hS
        go_simp
        try rfl
      case kmd14 =>
      go_simp
      refine wpMix_load ?vmd15 rfl (fun w' hS => ?ymd15) ?kmd15
      case ymd15 =>
        obtain ⟨g0, g1, _⟩ := hS
        go_simp
        try rfl
      case kmd15 =>
      go_simp
      refine wpMix_load ?vmd16 rfl (fun w' hS => ?ymd16) ?kmd16
      case ymd16 =>
        obtain ⟨g0, g1, _⟩ := hS
        go_simp
        try rfl
      case kmd16 =>
      go_simp
      refine wpMix_load ?vmd17 rfl (fun w' hS => ?ymd17) ?kmd17
      case ymd17 =>
        obtain ⟨g0, g1, _⟩ := hS
        go_simp
        try rfl
      case kmd17 =>
      go_simp
      have hof := dof_any L0 L1 A0 A1 c0 c1 w8 (by rw [← HLN.out.1]; omega) (by rw [← HLN.out.2]; omega) HNN.out.1 HNN.out.2 (HR0.out w8 HB8.out) (HR1.out w8 HB8.out)
      rw [← HLN.out.1, ← HLN.out.2] at hof
      refine wpMix_keep rfl ?_
      go_wp2_with fail
      refine hof.mono ?_
      clear hof
      rintro e w10 ⟨v10, rfl, hD10, hb10⟩
      have hD10 := hD10.more (S' := Lt w10.heap.size) fun y hy => hy.2
      have HB10 := Lib.hid (HB8.out.trans (hb10.mono HB8.out.size))
      have HD10 := Lib.hid hD10
      have hs10 := hb10.size
      have hof := rof_any L0 L1 A0 A1 c0 c1 w10 (by rw [← HLN.out.1]; omega) (by rw [← HLN.out.2]; omega) (HR0.out w10 HB10.out) (HR1.out w10 HB10.out)
      rw [← HLN.out.1, ← HLN.out.2] at hof
      have HOF := Lib.hid hof
      obtain ⟨F1, F2, F3, f1, f2, f3, rfl, _⟩ := hD10
      clear hb10 hof HB8
      refine ⟨HC.out.below HB10.out, ?_⟩
      refine wpMix_keep rfl ?_
      go_wp2_with fail
      refine HOF.out.mono ?_
      rintro e w11 ⟨g1, g2, g3, rfl, hg1, hg2, hg3, _, _, hb11⟩
      have hb1011 := HB10.out.trans (hb11.mono HB10.out.size)
      have hs11 := hb11.size
      have hsm := same_any (ofM L0 L1) (ofM L0 L1) _ _ w11 (HD10.out.below hb11) (dl_own hg1 hg2 hg3) (by
        have hmf := mate_few (goneM L1 L0) (goneM L0 L1)
        have hgl1 := gone_len L0 L1
        have hgl2 := gone_len L1 L0
        rw [← HLN.out.1] at hgl1
        rw [← HLN.out.2] at hgl2
        refine ⟨?_, ?_, ?_⟩
        · show (mateM L0 L1).2.2.length ≤ _; unfold mateM; omega
        · show (mateM L0 L1).1.length ≤ _; unfold mateM; omega
        · show ((mateM L0 L1).2.1.map mvOf).length ≤ _; unfold mateM; rw [List.length_map]; omega)
      obtain ⟨G1, gc1, rfl, _⟩ := own_slice hg1
      obtain ⟨G2, gc2, rfl, _⟩ := own_slice hg2
      obtain ⟨G3, gc3, rfl, _⟩ := own_slice hg3
      have HSM := Lib.hid hsm
      have HB11 := Lib.hid hb1011
      clear hg1 hg2 hg3 hb11 hb1011 hsm HOF HD10 HB10
      refine ⟨HC.out.below HB11.out, ?_⟩
      refine wpMix_keep rfl ?_
      go_wp2_with fail
      refine HSM.out.mono ?_
      rintro e w12 ⟨r12, rfl, hr12, hb12⟩
      obtain rfl : r12 = true := by simpa using hr12
      have HB12 := Lib.hid (HB11.out.trans (hb12.mono HB11.out.size))
      clear hr12 hb12 HSM HB11
      refine ⟨HC.out.below HB12.out, ?_⟩
      go_simp
      refine wpMix_load ?vme20 rfl (fun w' hS => ?yme20) ?kme20
      case yme20 =>
        obtain ⟨g0, g1, _⟩ := hS
        go_simp
        try rfl
      case kme20 =>
      go_simp
      refine wpMix_load ?vme21 rfl (fun w' hS => ?yme21) ?kme21
      case yme21 =>
        obtain ⟨g0, g1, _⟩ := hS
        go_simp
        try rfl
      case kme21 =>
      go_simp
      refine wpMix_nil ?_
      simp only [opsAt, List.filterMap_nil, List.getElem?_toArray]
      have HBN := Lib.hid (HBA.out.trans (HB12.out.mono HBA.out.size))
      clear HC HR0 HR1 HB12 HBA
      go_wp2
      refine NoPanic.normal ?_
      go_wp2_with fail
      first | go_roundw | refine ⟨?rel, ?measure⟩
      case rel => exact ⟨k + 1, by omega, by go_num, HBN.out⟩
      case measure => simp [intOf]; omega
    · obtain ⟨wx, hwx⟩ : ∃ wx, wx = wr := ⟨_, rfl⟩
      rw [← hwx] at hB ⊢
      have hq0 : decide ((k : Int) < 4) = false := by simp; omega
      clear hwx
      have hof := rof_any old now OA NA oc nc wx (by have := HNL.out; omega) (by have := HNL.out; omega) (by
        obtain ⟨A', c', e', _, _, h3⟩ := HO5.out.below hB
        obtain ⟨rfl, _, _⟩ : OA = A' ∧ n = old.length ∧ oc = c' := by simpa using e'
        exact h3) (by
        obtain ⟨A', c', e', _, _, h3⟩ := HN5.out.below hB
        obtain ⟨rfl, _, _⟩ : NA = A' ∧ p = now.length ∧ nc = c' := by simpa using e'
        exact h3)
      rw [← HNP.out.1, ← HNP.out.2] at hof
      have HOF := Lib.hid hof
      have HBX := Lib.hid hB
      have hxw5 := hB.size
      clear hof hB hlt
      go_wp2_with fail
      refine HOF.out.mono ?_
      rintro e w6 ⟨v1, v2, v3, rfl, h1, h2, h3, hne1, hne2, hb6⟩
      obtain ⟨D1, d1, rfl, _⟩ := own_slice h1
      obtain ⟨D2, d2, rfl, _⟩ := own_slice h2
      obtain ⟨D3, d3, rfl, _⟩ := own_slice h3
      obtain ⟨od, hod⟩ : ∃ od, od = ofM old now := ⟨_, rfl⟩
      have hol1 : od.gone.length ≤ 8 ∧ od.come.length ≤ 8 ∧ od.moved.length ≤ 8 := by
        have hmf := mate_few (goneM now old) (goneM old now)
        have hgl1 := gone_len old now
        have hgl2 := gone_len now old
        have h8 := HNL.out
        rw [hod]
        refine ⟨?_, ?_, ?_⟩
        · show (mateM old now).2.2.length ≤ _; unfold mateM; omega
        · show (mateM old now).1.length ≤ _; unfold mateM; omega
        · show ((mateM old now).2.1.map mvOf).length ≤ _; unfold mateM; rw [List.length_map]; omega
      rw [← hod] at h1 h2 h3 hne1 hne2 ⊢
      obtain ⟨m1, hm1⟩ : ∃ m, m = od.gone.length := ⟨_, rfl⟩
      obtain ⟨m2, hm2⟩ : ∃ m, m = od.come.length := ⟨_, rfl⟩
      obtain ⟨m3, hm3⟩ : ∃ m, m = od.moved.length := ⟨_, rfl⟩
      rw [← hm1] at h1 hne1
      rw [← hm2] at h2 hne1 hne2
      rw [← hm3] at h3 hne1 hne2
      rw [← hm1, ← hm2, ← hm3] at hol1 ⊢
      obtain ⟨hol1a, hol1b, hol1c⟩ := hol1
      obtain ⟨w7, hw7⟩ : ∃ w7, w7 = w6.alloc (.cells #[.slice D1 m1 d1, .slice D2 m2 d2, .slice D3 m3 d3] 25) := ⟨_, rfl⟩
      have hb7 : Below w6.heap.size w6 w7 := by rw [hw7]; exact (Below.refl _ _).alloc (Nat.le_refl _) _
      have hx7 : w7.heap[w6.heap.size]? = some (.cells #[.slice D1 m1 d1, .slice D2 m2 d2, .slice D3 m3 d3] 25 (0, 0)) := by rw [hw7]; exact alloc1 _ _
      have hk67 := Kp.ofBelow (M := fun _ => False) hb7
      have HD1 := Lib.hid (hk67.own h1 fun _ _ e => e)
      have HD2 := Lib.hid (hk67.own h2 fun _ _ e => e)
      have HD3 := Lib.hid (hk67.own h3 fun _ _ e => e)
      have HY7 := Lib.hid hx7
      have HNE := Lib.hid (And.intro hne1 hne2)
      have HLT := Lib.hid (And.intro h1.lt (And.intro h2.lt h3.lt))
      have HMM := Lib.hid (And.intro hm1 (And.intro hm2 hm3))
      have hb56 := HBX.out.trans (hb6.mono HBX.out.size)
      have hxw6 := hb6.size
      have HB57 := Lib.hid (hb56.trans (hb7.mono hb56.size))
      have HW7 := Lib.hid hw7
      have hs7 : w7.heap.size = w6.heap.size + 1 := by rw [hw7]; simp
      have h67 : w6.heap.size < w7.heap.size := by omega
      have HS7 := Lib.hid hs7
      clear hs7
      have h56 := hb56.size
      have HMD := Lib.hid (mod_any what 5 w7 HWH.out.1 HWH.out.2 (by omega) (by omega))
      obtain ⟨ρ, hρ⟩ : ∃ ρ, ρ = what % 5 := ⟨_, rfl⟩
      have hρ5 : 0 ≤ ρ ∧ ρ < 5 := by omega
      rw [← hρ] at HMD
      obtain ⟨Y, hY⟩ : ∃ Y, Y = w6.heap.size := ⟨_, rfl⟩
      rw [← hY] at HY7
      have HYE := Lib.hid hY
      clear h1 h2 h3 hne1 hne2 hb6 hm1 hm2 hm3 hw7 hb7 hx7 hk67 hb56 HOF hρ hY hod
      go_wp2_with fail
      rw [← HW7.out, ← HYE.out]
      refine HMD.out.mono ?_
      rintro e w8 ⟨rfl, rfl⟩
      clear HMD
      obtain rfl | rfl | rfl | rfl | rfl : ρ = 0 ∨ ρ = 1 ∨ ρ = 2 ∨ ρ = 3 ∨ ρ = 4 := by omega
      · have hx0 := (HB5.out.trans (HB57.out.mono HB5.out.size)).block _ (lt_of_heap HX0.out)
        have hx0 := hx0.trans HX0.out
        have hYe := HYE.out
        have h05 := HB5.out.size
        have hwY : w.heap.size < Y := by have := lt_of_heap HX0.out; omega
        have hy7 := HY7.out
        have hYl := lt_of_heap hy7
        have k0 : w7.cell? ⟨w.heap.size, 0, none⟩ = some (.slice X1 xg xc1) := (Lib.cell_of_heap hx0 0).trans rfl
        have k1 : w7.cell? ⟨w.heap.size, 1, none⟩ = some (.slice X2 xc xc2) := (Lib.cell_of_heap hx0 1).trans rfl
        have k2 : w7.cell? ⟨w.heap.size, 2, none⟩ = some (.slice X3 xm xc3) := (Lib.cell_of_heap hx0 2).trans rfl
        have g0 : w7.cell? ⟨Y, 0, none⟩ = some (.slice D1 m1 d1) := (Lib.cell_of_heap hy7 0).trans rfl
        have g1 : w7.cell? ⟨Y, 1, none⟩ = some (.slice D2 m2 d2) := (Lib.cell_of_heap hy7 1).trans rfl
        have g2 : w7.cell? ⟨Y, 2, none⟩ = some (.slice D3 m3 d3) := (Lib.cell_of_heap hy7 2).trans rfl
        have f0 : w7.frozen? ⟨Y, 0, none⟩ = false := Lib.frozen_of_heap hy7 0
        have f1 : w7.frozen? ⟨Y, 1, none⟩ = false := Lib.frozen_of_heap hy7 1
        have f2 : w7.frozen? ⟨Y, 2, none⟩ = false := Lib.frozen_of_heap hy7 2
        obtain ⟨ws, hws⟩ : ∃ ws, ws = ((w7.setCell ⟨Y, 0, none⟩ (.slice X1 xg xc1)).setCell ⟨Y, 1, none⟩ (.slice X2 xc xc2)).setCell ⟨Y, 2, none⟩ (.slice X3 xm xc3) := ⟨_, rfl⟩
        have hks : Kp (fun y => y = Y) w7 ws := by
          rw [hws]
          exact Kp.setCell (M := fun y => y = Y) (Kp.setCell (M := fun y => y = Y) (Kp.setCell (M := fun y => y = Y) (Kp.refl _ _) (fun _ => rfl) _) (fun _ => rfl) _) (fun _ => rfl) _
        have hYs : ws.heap[Y]? = some (.cells #[.slice X1 xg xc1, .slice X2 xc xc2, .slice X3 xm xc3] 25 (0, 0)) := by
          rw [hws]
          exact setCell_heap (setCell_heap (setCell_heap hy7))
        have HY := Lib.hid hYs
        have hdx := HXV.out w5 HB5.out
        have hb5s := kp_below HB57.out hks fun y e => by omega
        have HDY := Lib.hid (hdx.below hb5s)
        have HB5S := Lib.hid hb5s
        have HYL : Hid (x.gone.length ≤ 100 ∧ x.come.length ≤ 100 ∧ x.moved.length ≤ 100) := Lib.hid (by rw [← HXN.out.1, ← HXN.out.2.1, ← HXN.out.2.2]; omega)
        have HWS := Lib.hid hws
        have HSZ : Hid (w7.heap.size = ws.heap.size) := Lib.hid (by rw [hws, sizeSet, sizeSet, sizeSet])
        clear hx0 hYe h05 hy7 hws hks hYs hdx hb5s
        -- the difference x lies in the box at Y (world ws): HY HDY HYL HB5S
        obtain ⟨n1, hn1⟩ : ∃ n1, n1 = x.gone.length := ⟨_, rfl⟩
        obtain ⟨n2, hn2⟩ : ∃ n2, n2 = x.come.length := ⟨_, rfl⟩
        obtain ⟨n3, hn3⟩ : ∃ n3, n3 = x.moved.length := ⟨_, rfl⟩
        have hyl := HYL.out
        rw [← hn1, ← hn2, ← hn3] at hyl
        obtain ⟨hyl1, hyl2, hyl3⟩ := hyl
        have hyc : X1 = X1 ∧ xg = n1 ∧ xc = n2 ∧ xm = n3 := by
          obtain ⟨a1, a2, a3, z1, z2, z3, he, _⟩ := HDY.out
          have he : (X1 = a1 ∧ xg = x.gone.length ∧ xc1 = z1) ∧ (X2 = a2 ∧ xc = x.come.length ∧ xc2 = z2) ∧ (X3 = a3 ∧ xm = x.moved.length ∧ xc3 = z3) := by simpa using he
          exact ⟨rfl, he.1.2.1.trans hn1.symm, he.2.1.2.1.trans hn2.symm, he.2.2.2.1.trans hn3.symm⟩
        have HYN := Lib.hid (And.intro hn1 (And.intro hn2 hn3))
        obtain ⟨_, rfl, rfl, rfl⟩ := hyc
        have HEM : Hid (∀ w', Below ws.heap.size ws w' → DlV w' (Lt w'.heap.size) (.agg #[.slice X1 xg xc1, .slice X2 xc xc2, .slice X3 xm xc3]) x) := Lib.hid fun w' hb => HDY.out.below hb
        obtain ⟨wt, hwt⟩ : ∃ wt, wt = ws.alloc (.cells #[.slice OA n oc, .slice RA r rc] 22) := ⟨_, rfl⟩
        have hbt : Below ws.heap.size ws wt := by rw [hwt]; exact (Below.refl _ _).alloc (Nat.le_refl _) _
        have hxt : wt.heap[ws.heap.size]? = some (.cells #[.slice OA n oc, .slice RA r rc] 22 (0, 0)) := by rw [hwt]; exact alloc1 _ _
        have hb5t := HB5S.out.trans (hbt.mono HB5S.out.size)
        have HB5T := Lib.hid hb5t
        have HBT := Lib.hid hbt
        have HLS : Hid (∀ (k : Nat) (w' : World), k < 2 → Below wt.heap.size wt w' → ∃ (v : Value) (L : List Msg), w'.cell? ⟨ws.heap.size, k, none⟩ = some v ∧ SlM w' v L ∧ L.length ≤ 40) := Lib.hid fun k w' hk hb => by
          have hx := (hb.block _ (lt_of_heap hxt)).trans hxt
          have h1 := HNL.out
          have h2 := HRL.out
          have hb5 := hb5t.trans (hb.mono hb5t.size)
          obtain rfl | rfl : k = 0 ∨ k = 1 := by omega
          · exact ⟨_, old, (Lib.cell_of_heap hx _).trans rfl, HO5.out.below hb5, by omega⟩
          · exact ⟨_, raw, (Lib.cell_of_heap hx _).trans rfl, HR5.out.below hb5, h2.1⟩
        have HWT := Lib.hid hwt
        have hyw := lt_of_heap HY.out
        clear hn1 hn2 hn3 hwt hbt hxt hb5t
        go_wp2_with fail
        (rw [← HWS.out, HSZ.out]; clear k0 k1 k2 g0 g1 g2 f0 f1 f2)
        rw [← HWT.out]
        go_loopw [150] (fun i wr => ∃ k : Nat, k ≤ 2 ∧ i = .int .i64 k ∧ Below wt.heap.size wt wr) (fun i _ => 2 - (intOf i).toNat)
        case atStart => exact ⟨0, by omega, rfl, Below.refl _ _⟩
        case round =>
          obtain ⟨k, hk2, rfl, hB⟩ := hrel
          obtain ⟨wu, hwu⟩ : ∃ wu, wu = wr := ⟨_, rfl⟩
          rw [← hwu] at hB ⊢
          clear hwu
          have hbsu := HBT.out.trans (hB.mono HBT.out.size)
          have hxy := (hbsu.block _ (lt_of_heap HY.out)).trans HY.out
          have u0 : wu.cell? ⟨Y, 0, none⟩ = some (.slice X1 xg xc1) := (Lib.cell_of_heap hxy 0).trans rfl
          have u1 : wu.cell? ⟨Y, 1, none⟩ = some (.slice X2 xc xc2) := (Lib.cell_of_heap hxy 1).trans rfl
          have u2 : wu.cell? ⟨Y, 2, none⟩ = some (.slice X3 xm xc3) := (Lib.cell_of_heap hxy 2).trans rfl
          by_cases hlt : k < 2
          · obtain ⟨v, L, p0, hS, hl⟩ := HLS.out k wu hlt hB
            obtain ⟨LA, lc, rfl, hln, _, hlr⟩ := hS
            have hik : (0 : Int) ≤ (k : Int) ∧ (k : Int) < 2 := ⟨by omega, by omega⟩
            have hap := apply_any L x _ LA lc wu (by omega) hln hlr (HEM.out wu hbsu) (by rw [← HYN.out.1, ← HYN.out.2.1, ← HYN.out.2.2]; omega)
            have HRP : Hid (∀ w', Below wu.heap.size wu w' → Calls Try.prog 19 #[.slice LA L.length lc, .agg #[.slice X1 xg xc1, .slice X2 xc xc2, .slice X3 xm xc3]] w' (ApRes (applyM L x) w')) := Lib.hid fun w' hb => rapply_any L x _ LA lc w' (by omega) (hlr.below hb) (HEM.out w' (hbsu.trans (hb.mono hbsu.size))) (by rw [← HYN.out.1, ← HYN.out.2.1, ← HYN.out.2.2]; omega)
            have hyu := lt_of_heap hxy
            have HXY := Lib.hid hxy
            have HAP := Lib.hid hap
            obtain ⟨l, hl'⟩ : ∃ l, l = L.length := ⟨_, rfl⟩
            rw [← hl'] at hl HAP HRP p0
            have HLX := Lib.hid hl'
            have HB := Lib.hid hB
            clear hln hlr hap hl' hB hbsu hxy
            go_wp2_with fail
            clear p0 u0 u1 u2
            refine HAP.out.mono ?_
            rintro e w7 hap
            have hlen := fun l => apply_len (L := L) (d := x) (l := l)
            rw [← HYN.out.2.1, ← HYN.out.2.2, ← HLX.out] at hlen
            obtain ⟨o, ho⟩ : ∃ o, o = applyM L x := ⟨_, rfl⟩
            rw [← ho] at hap HRP hlen
            have HLEN := Lib.hid hlen
            clear ho HAP hlen
            obtain ⟨v7, l7, rfl, rfl, hown7, hb7⟩ | ⟨rfl, rfl, hb7⟩ := hap
            · have hxy7 := (hb7.block _ (lt_of_heap HXY.out)).trans HXY.out
              have u0 : w7.cell? ⟨Y, 0, none⟩ = some (.slice X1 xg xc1) := (Lib.cell_of_heap hxy7 0).trans rfl
              have u1 : w7.cell? ⟨Y, 1, none⟩ = some (.slice X2 xc xc2) := (Lib.cell_of_heap hxy7 1).trans rfl
              have u2 : w7.cell? ⟨Y, 2, none⟩ = some (.slice X3 xm xc3) := (Lib.cell_of_heap hxy7 2).trans rfl
              obtain ⟨UA, uc, rfl, _⟩ := own_slice hown7
              have HO7 := Lib.hid hown7
              have HRP7 := Lib.hid (HRP.out w7 hb7)
              have HB7 := Lib.hid (HB.out.trans (hb7.mono HB.out.size))
              obtain ⟨j7, hj7⟩ : ∃ j, j = l7.length := ⟨_, rfl⟩
              rw [← hj7]
              have HJ7 := Lib.hid hj7
              have hbnd : l7.length ≤ 1000000 := by
                have := HLEN.out l7 rfl
                omega
              rw [← hj7] at hbnd
              clear hown7 hb7 hxy7 hj7 HRP HB
              go_wp2_with fail
              clear u0 u1 u2
              refine HRP7.out.mono ?_
              rintro e w8 hap
              obtain ⟨v8, l8, e8, rfl, hown8, hb8⟩ | ⟨e8, _⟩ := hap
              rotate_left
              · cases e8
              obtain rfl : l7 = l8 := Option.some.inj e8
              obtain ⟨TA, tc, rfl, _⟩ := own_slice hown8
              have hsl := sameList_any l7 l7 UA TA uc tc w8 (by rw [← HJ7.out]; exact hbnd) (Row.ofOwn ((Kp.ofBelow (M := fun _ => False) hb8).own HO7.out fun _ _ e => e) fun _ _ _ h => h) (Row.ofOwn hown8 fun _ _ _ h => h)
              rw [← HJ7.out] at hsl ⊢
              have HSL := Lib.hid hsl
              have HB8 := Lib.hid (HB7.out.trans (hb8.mono HB7.out.size))
              clear hown8 hb8 hsl HRP7 HO7 HB7
              go_wp2_with fail
              refine HSL.out.mono ?_
              rintro e w9 ⟨r9, rfl, hr9, hb9⟩
              obtain rfl : r9 = true := by simpa using hr9
              have HB9 := Lib.hid (HB8.out.trans (hb9.mono HB8.out.size))
              clear hr9 hb9 HSL HB8
              go_wp2_with fail
              first | go_roundw | refine ⟨?rel, ?measure⟩
              case rel => exact ⟨k + 1, by omega, by go_num, HB9.out⟩
              case measure => simp [intOf]; omega
            · have hxy7 := (hb7.block _ (lt_of_heap HXY.out)).trans HXY.out
              have u0 : w7.cell? ⟨Y, 0, none⟩ = some (.slice X1 xg xc1) := (Lib.cell_of_heap hxy7 0).trans rfl
              have u1 : w7.cell? ⟨Y, 1, none⟩ = some (.slice X2 xc xc2) := (Lib.cell_of_heap hxy7 1).trans rfl
              have u2 : w7.cell? ⟨Y, 2, none⟩ = some (.slice X3 xm xc3) := (Lib.cell_of_heap hxy7 2).trans rfl
              have HRP7 := Lib.hid (HRP.out w7 hb7)
              have HB7 := Lib.hid (HB.out.trans (hb7.mono HB.out.size))
              clear hb7 hxy7 HRP HB
              go_wp2_with fail
              clear u0 u1 u2
              refine HRP7.out.mono ?_
              rintro e w8 hap
              obtain ⟨v8, l8, e8, _⟩ | ⟨_, rfl, hb8⟩ := hap
              · cases e8
              have hsl := sameList_any [] [] none none 0 0 w8 (by simp) (Row.nil _ _ _) (Row.nil _ _ _)
              have HSL := Lib.hid hsl
              have HB8 := Lib.hid (HB7.out.trans (hb8.mono HB7.out.size))
              clear hb8 hsl HRP7 HB7
              go_wp2_with fail
              refine HSL.out.mono ?_
              rintro e w9 ⟨r9, rfl, hr9, hb9⟩
              obtain rfl : r9 = true := by simpa using hr9
              have HB9 := Lib.hid (HB8.out.trans (hb9.mono HB8.out.size))
              clear hr9 hb9 HSL HB8
              go_wp2_with fail
              first | go_roundw | refine ⟨?rel, ?measure⟩
              case rel => exact ⟨k + 1, by omega, by go_num, HB9.out⟩
              case measure => simp [intOf]; omega
          · have hq0 : decide ((k : Int) < 2) = false := by simp; omega
            have hb5u := HB5T.out.trans (hB.mono HB5T.out.size)
            have h05 := HB5.out
            have hbwu := h05.trans (hb5u.mono h05.size)
            have hx0u := (hbwu.block _ (lt_of_heap HX0.out)).trans HX0.out
            have HCY : Hid (AtCells [(⟨Y, 0, none⟩, .slice X1 xg xc1), (⟨Y, 1, none⟩, .slice X2 xc xc2), (⟨Y, 2, none⟩, .slice X3 xm xc3), (⟨w.heap.size, 0, none⟩, .slice X1 xg xc1), (⟨w.heap.size, 1, none⟩, .slice X2 xc xc2), (⟨w.heap.size, 2, none⟩, .slice X3 xm xc3)] wu) := Lib.hid ⟨u0, u1, u2, (Lib.cell_of_heap hx0u 0).trans rfl, (Lib.cell_of_heap hx0u 1).trans rfl, (Lib.cell_of_heap hx0u 2).trans rfl, trivial⟩
            have HYU := Lib.hid fun w' (hb : Below wu.heap.size wu w') => HEM.out w' (hbsu.trans (hb.mono hbsu.size))
            have HXU := Lib.hid fun w' (hb : Below wu.heap.size wu w') => HXV.out w' (hbwu.trans (hb.mono hbwu.size))
            have HBWU := Lib.hid (HB0.out.trans (hbwu.mono HB0.out.size))
            obtain ⟨qy, hqy⟩ : ∃ qy, qy = decide (x.gone.length + x.come.length + x.moved.length = 0) := ⟨_, rfl⟩
            obtain ⟨qx, hqx⟩ : ∃ qx, qx = decide (x.gone.length + x.come.length + x.moved.length = 0) := ⟨_, rfl⟩
            have HQY := Lib.hid hqy
            have HQX := Lib.hid hqx
            clear hB hlt hb5u h05 hbwu hx0u hbsu hxy u0 u1 u2 hqy hqx
            go_wp2_with fail
            refine wp_region_mix (AtCells [(⟨Y, 0, none⟩, .slice X1 xg xc1), (⟨Y, 1, none⟩, .slice X2 xc xc2), (⟨Y, 2, none⟩, .slice X3 xm xc3), (⟨w.heap.size, 0, none⟩, .slice X1 xg xc1), (⟨w.heap.size, 1, none⟩, .slice X2 xc xc2), (⟨w.heap.size, 2, none⟩, .slice X3 xm xc3)]) [(true, 0), (true, 2), (false, 1), (false, 3), (true, 4), (true, 5), (true, 6), (true, 8), (false, 7), (false, 9), (true, 10), (true, 11), (true, 12), (false, 13), (true, 14)] [15] (by kernel_rfl) (by kernel_rfl) ?sza ?hza
            case sza => exact HCY.out.below (Below.refl _ wu).drew
            case hza =>
            simp only [mixAt, List.filterMap_cons, List.filterMap_nil, List.getElem?_toArray, List.getElem?_cons_succ, List.getElem?_cons_zero, Option.map_some]
            refine wpMix_load ?vana0 rfl (fun w' hS => ?yana0) ?kana0
            case yana0 =>
              obtain ⟨g0, g1, g2, g3, g4, g5, _⟩ := hS
              go_simp
              try rfl
            case kana0 =>
            go_simp
            refine wpMix_load ?vanb2 rfl (fun w' hS => ?yanb2) ?kanb2
            case yanb2 =>
              obtain ⟨g0, g1, g2, g3, g4, g5, _⟩ := hS
              go_simp
              try rfl
            case kanb2 =>
            go_simp
            have hem := empty_any _ x _ wu.drew (HYU.out wu.drew (Below.refl _ wu).drew) (by rw [← HYN.out.1, ← HYN.out.2.1, ← HYN.out.2.2]; omega)
            rw [← HQY.out] at hem
            refine wpMix_keep rfl ?_
            go_wp2_with fail
            refine hem.mono ?_
            clear hem
            rintro e u7 ⟨rfl, hb7⟩
            have HB7 := Lib.hid (show Below wu.heap.size wu u7 from (Below.refl _ wu).drew.trans hb7)
            have hem := rempty_any _ x _ u7 (HYU.out u7 HB7.out) (by rw [← HYN.out.1, ← HYN.out.2.1, ← HYN.out.2.2]; omega)
            rw [← HQY.out] at hem
            have HE7 := Lib.hid hem
            have hs7 := HB7.out.size
            clear hb7 hem
            refine ⟨HCY.out.below HB7.out, ?_⟩
            refine wpMix_keep rfl ?_
            go_wp2_with fail
            refine HE7.out.mono ?_
            rintro e u8 ⟨rfl, hb8⟩
            have HB8 := Lib.hid (HB7.out.trans (hb8.mono HB7.out.size))
            clear hb8 HE7 HB7
            refine ⟨HCY.out.below HB8.out, ?_⟩
            go_simp
            refine wpMix_load ?vanc4 rfl (fun w' hS => ?yanc4) ?kanc4
            case yanc4 =>
              obtain ⟨g0, g1, g2, g3, g4, g5, _⟩ := hS
              go_simp
              try rfl
            case kanc4 =>
            go_simp
            refine wpMix_load ?vanc5 rfl (fun w' hS => ?yanc5) ?kanc5
            case yanc5 =>
              obtain ⟨g0, g1, g2, g3, g4, g5, _⟩ := hS
              go_simp
              try rfl
            case kanc5 =>
            go_simp
            refine wpMix_load ?vanc6 rfl (fun w' hS => ?yanc6) ?kanc6
            case yanc6 =>
              obtain ⟨g0, g1, g2, g3, g4, g5, _⟩ := hS
              go_simp
              try rfl
            case kanc6 =>
            go_simp
            refine wpMix_load ?vand8 rfl (fun w' hS => ?yand8) ?kand8
            case yand8 =>
              obtain ⟨g0, g1, g2, g3, g4, g5, _⟩ := hS
              go_simp
              try rfl
            case kand8 =>
            go_simp
            have hem := empty_any _ x _ u8 (HXU.out u8 HB8.out) (by rw [← HXN.out.1, ← HXN.out.2.1, ← HXN.out.2.2]; omega)
            rw [← HQX.out] at hem
            refine wpMix_keep rfl ?_
            go_wp2_with fail
            refine hem.mono ?_
            clear hem
            rintro e u9 ⟨rfl, hb9⟩
            have HB9 := Lib.hid (HB8.out.trans (hb9.mono HB8.out.size))
            have hem := rempty_any _ x _ u9 (HXU.out u9 HB9.out) (by rw [← HXN.out.1, ← HXN.out.2.1, ← HXN.out.2.2]; omega)
            rw [← HQX.out] at hem
            have HE9 := Lib.hid hem
            clear hb9 hem HB8
            refine ⟨HCY.out.below HB9.out, ?_⟩
            refine wpMix_keep rfl ?_
            go_wp2_with fail
            refine HE9.out.mono ?_
            rintro e u10 ⟨rfl, hb10⟩
            have HB10 := Lib.hid (HB9.out.trans (hb10.mono HB9.out.size))
            clear hb10 HE9 HB9
            refine ⟨HCY.out.below HB10.out, ?_⟩
            go_simp
            refine wpMix_load ?vane10 rfl (fun w' hS => ?yane10) ?kane10
            case yane10 =>
              obtain ⟨g0, g1, g2, g3, g4, g5, _⟩ := hS
              go_simp
              try rfl
            case kane10 =>
            go_simp
            refine wpMix_load ?vane11 rfl (fun w' hS => ?yane11) ?kane11
            case yane11 =>
              obtain ⟨g0, g1, g2, g3, g4, g5, _⟩ := hS
              go_simp
              try rfl
            case kane11 =>
            go_simp
            refine wpMix_load ?vane12 rfl (fun w' hS => ?yane12) ?kane12
            case yane12 =>
              obtain ⟨g0, g1, g2, g3, g4, g5, _⟩ := hS
              go_simp
              try rfl
            case kane12 =>
            go_simp
            have HAW := Lib.hid (awake_any u10)
            refine wpMix_keep rfl ?_
            go_wp2_with fail
            refine HAW.out.mono ?_
            rintro e u11 ⟨rfl, hb11⟩
            have HB11 := Lib.hid (HB10.out.trans (hb11.mono HB10.out.size))
            have HEND := Lib.hid (HBWU.out.trans (HB11.out.mono HBWU.out.size))
            refine ⟨HCY.out.below HB11.out, ?_⟩
            clear hb11 HAW HB10 HB11
            go_simp
            refine wpMix_load ?vanf14 rfl (fun w' hS => ?yanf14) ?kanf14
            case yanf14 =>
              obtain ⟨g0, g1, g2, g3, g4, g5, _⟩ := hS
              go_simp
              try rfl
            case kanf14 =>
            go_simp
            refine wpMix_nil ?_
            simp only [opsAt, List.filterMap_cons, List.filterMap_nil, List.getElem?_toArray, List.getElem?_cons_succ, List.getElem?_cons_zero]
            go_wp2
            refine NoPanic.normal ?_
            go_wp2
            go_ret
            exact ⟨rfl, HEND.out⟩
      · have HC : Hid (AtCells [(⟨Y, 0, none⟩, .slice D1 m1 d1)] w7) := Lib.hid ⟨(Lib.cell_of_heap HY7.out 0).trans rfl, trivial⟩
        have HMB := Lib.hid (mod_any by_ 6 w7.drew HBY.out.1 HBY.out.2 (by omega) (by omega))
        go_wp2_with fail
        refine wp_region_mix (AtCells [(⟨Y, 0, none⟩, .slice D1 m1 d1)]) [(true, 0), (true, 1), (true, 2), (false, 3), (true, 4), (false, 5)] [6, 7, 8] (by kernel_rfl) (by kernel_rfl) ?sab ?hab
        case sab => exact HC.out.below (Below.refl _ w7).drew
        case hab =>
        simp only [mixAt, List.filterMap_cons, List.filterMap_nil, List.getElem?_toArray, List.getElem?_cons_succ, List.getElem?_cons_zero, Option.map_some]
        refine wpMix_load ?vpab0 rfl (fun w' hS => ?ypab0) ?kpab0
        case ypab0 =>
          obtain ⟨g0, _⟩ := hS
          go_simp
          try rfl
        case kpab0 =>
        go_simp
        refine wpMix_load ?vpab1 rfl (fun w' hS => ?ypab1) ?kpab1
        case ypab1 =>
          obtain ⟨g0, _⟩ := hS
          go_simp
          try rfl
        case kpab1 =>
        go_simp
        refine wpMix_load ?vpab2 rfl (fun w' hS => ?ypab2) ?kpab2
        case ypab2 =>
          obtain ⟨g0, _⟩ := hS
          go_simp
          try rfl
        case kpab2 =>
        go_simp
        refine wpMix_keep rfl ?_
        go_wp2_with fail
        refine HMB.out.mono ?_
        rintro e w9 ⟨rfl, rfl⟩
        clear HMB
        refine ⟨HC.out.below (Below.refl _ w7).drew, ?_⟩
        go_simp
        refine wpMix_load ?vpbb4 rfl (fun w' hS => ?ypbb4) ?kpbb4
        case ypbb4 =>
          obtain ⟨g0, _⟩ := hS
          go_simp
          try rfl
        case kpbb4 =>
        go_simp
        refine wpMix_keep rfl ?_
        go_simp
        obtain ⟨w9, hw9⟩ : ∃ w9, w9 = (w7.alloc (.cells #[.int .i64 (by_ % 6), .int .i64 1, .string ⟨#[]⟩] 40)).drew := ⟨_, rfl⟩
        have hb9 : Below w7.heap.size w7 w9 := by rw [hw9]; exact ((Below.refl _ _).alloc (Nat.le_refl _) _).drew
        have hx9 : w9.heap[w7.heap.size]? = some (.cells #[.int .i64 (by_ % 6), .int .i64 1, .string ⟨#[]⟩] 40 (0, 0)) := by rw [hw9]; exact alloc1 w7 _
        rw [← hw9]
        refine ⟨HC.out.below hb9, ?_⟩
        refine wpMix_nil ?_
        have hk9 := Kp.ofBelow (M := fun _ => False) hb9
        have h1 := hk9.own HD1.out fun _ _ e => e
        have h2 := hk9.own HD2.out fun _ _ e => e
        have h3 := hk9.own HD3.out fun _ _ e => e
        have hY9 := (hb9.block _ (lt_of_heap HY7.out)).trans HY7.out
        have hrow : Row w9 (fun y => y = w7.heap.size) (some ⟨w7.heap.size, 0, none⟩) (msC (by_ % 6, 1, [])) := row_heap hx9 rfl rfl
        have hs9 := hb9.size
        clear HC hw9 hx9
        simp only [opsAt, List.filterMap_cons, List.filterMap_nil, List.getElem?_toArray, List.getElem?_cons_succ, List.getElem?_cons_zero]
        refine (wpList_append_row rfl _ _ 22 rfl wx.heap.size 40 i0 _ 3 32 Try.underlying22 hi hz0 hz1 hz2 rfl (by omega) (.slice D1 m1 d1) m1 (flt msC od.gone) rfl h1 (fun y => y = w7.heap.size) (some ⟨w7.heap.size, 0, none⟩) 1 1 (msC (by_ % 6, 1, [])) rfl rfl hrow (msC_one _) (by unfold maxLen; omega) (by omega) (by omega) ?_)
        intro v' w10 hown hg hat
        obtain ⟨E1, e1, rfl, _⟩ := own_slice hown
        have hk10 : Kp (fun y => (Value.slice D1 m1 d1).ownBlock = some y) w9 w10 := (Kp.refl _ _).grown hg fun q hq _ => hq
        have hs10 := hk10.size
        have hYlt : w7.heap.size = Y + 1 := by rw [HYE.out]; exact HS7.out
        have hY10 := hk10.heap hY9 fun e => by have := (HLT.out.1 _ e).2; have := HYE.out; omega
        have hf10 : w10.frozen? ⟨Y, 0, none⟩ = false := Lib.frozen_of_heap hY10 0
        have hc10 : w10.cell? ⟨Y, 0, none⟩ = some (.slice D1 m1 d1) := (Lib.cell_of_heap hY10 0).trans rfl
        obtain ⟨ws, hws⟩ : ∃ ws, ws = w10.setCell ⟨Y, 0, none⟩ (.slice E1 (m1 + 1) e1) := ⟨_, rfl⟩
        have hks : Kp (fun y => y = Y) w10 ws := by rw [hws]; exact Kp.setCell (M := fun y => y = Y) (Kp.refl _ _) (fun _ => rfl) _
        have hYs : ws.heap[Y]? = some (.cells (#[.slice E1 (m1 + 1) e1, .slice D2 m2 d2, .slice D3 m3 d3]) 25 (0, 0)) := by rw [hws]; exact setCell_heap (w := w10) hY10
        have hnY : ∀ g, (Value.slice E1 (m1 + 1) e1).ownBlock = some g → ¬ g = Y := fun g hg e => by
          rcases hat with h | h
          · rw [h] at hg
            have := (HLT.out.1 _ hg).2
            have := HYE.out
            omega
          · rw [h] at hg
            have : w9.heap.size = g := Option.some.inj hg
            omega
        have hb10 : Below w5.heap.size w5 w10 := kp_below (HB57.out.trans (hb9.mono HB57.out.size)) hk10 fun y e => by have := (HLT.out.1 _ e).1; omega
        have HB5S := Lib.hid (kp_below hb10 hks fun y e => by have := HYE.out; omega)
        obtain ⟨yd, hyd⟩ : ∃ yd : Dl, yd = (⟨od.gone ++ [(by_ % 6, 1, [])], od.come, od.moved⟩) := ⟨_, rfl⟩
        have HYL : Hid (yd.gone.length ≤ 100 ∧ yd.come.length ≤ 100 ∧ yd.moved.length ≤ 100) := Lib.hid (by rw [hyd]; simp only [List.length_append, List.length_cons, List.length_nil, ← HMM.out.1, ← HMM.out.2.1, ← HMM.out.2.2]; omega)
        have ho1 := hks.own hown fun g hg => hnY g hg
        have ho2 := hks.own (hk10.own h2 (fun g hg e => (HNE.out.1 g e).1 hg)) fun g hg e => by have := (HLT.out.2.1 g hg).2; have := HYE.out; omega
        have ho3 := hks.own (hk10.own h3 (fun g hg e => (HNE.out.1 g e).2 hg)) fun g hg e => by have := (HLT.out.2.2 g hg).2; have := HYE.out; omega
        have HDY : Hid (DlV ws (Lt ws.heap.size) (.agg (#[.slice E1 (m1 + 1) e1, .slice D2 m2 d2, .slice D3 m3 d3])) yd) := Lib.hid (by
          rw [hyd]
          exact dl_own (b1 := wx.heap.size) (b2 := wx.heap.size) (b3 := wx.heap.size) ((by rw [List.length_append, flt_append, flt_one, ← HMM.out.1]; exact ho1)) ((by rw [← HMM.out.2.1]; exact ho2)) ((by rw [← HMM.out.2.2]; exact ho3)))
        have HY := Lib.hid hYs
        have HWS := Lib.hid hws
        clear hb9 hk9 h1 h2 h3 hY9 hrow hown hg hat hk10 hY10 hws hks hYs hnY hb10 hyd ho1 ho2 ho3 hYlt
        go_wp2
        rw [← HWS.out]
        refine NoPanic.normal ?_
        clear hf10 hc10
        go_wp2_with fail
        -- the difference yd lies in the box at Y (world ws): HY HDY HYL HB5S
        obtain ⟨n1, hn1⟩ : ∃ n1, n1 = yd.gone.length := ⟨_, rfl⟩
        obtain ⟨n2, hn2⟩ : ∃ n2, n2 = yd.come.length := ⟨_, rfl⟩
        obtain ⟨n3, hn3⟩ : ∃ n3, n3 = yd.moved.length := ⟨_, rfl⟩
        have hyl := HYL.out
        rw [← hn1, ← hn2, ← hn3] at hyl
        obtain ⟨hyl1, hyl2, hyl3⟩ := hyl
        have hyc : E1 = E1 ∧ (m1 + 1) = n1 ∧ m2 = n2 ∧ m3 = n3 := by
          obtain ⟨a1, a2, a3, z1, z2, z3, he, _⟩ := HDY.out
          have he : (E1 = a1 ∧ (m1 + 1) = yd.gone.length ∧ e1 = z1) ∧ (D2 = a2 ∧ m2 = yd.come.length ∧ d2 = z2) ∧ (D3 = a3 ∧ m3 = yd.moved.length ∧ d3 = z3) := by simpa using he
          exact ⟨rfl, he.1.2.1.trans hn1.symm, he.2.1.2.1.trans hn2.symm, he.2.2.2.1.trans hn3.symm⟩
        have HYN := Lib.hid (And.intro hn1 (And.intro hn2 hn3))
        obtain ⟨_, rfl, rfl, rfl⟩ := hyc
        have HEM : Hid (∀ w', Below ws.heap.size ws w' → DlV w' (Lt w'.heap.size) (.agg #[.slice E1 (m1 + 1) e1, .slice D2 m2 d2, .slice D3 m3 d3]) yd) := Lib.hid fun w' hb => HDY.out.below hb
        obtain ⟨wt, hwt⟩ : ∃ wt, wt = ws.alloc (.cells #[.slice OA n oc, .slice RA r rc] 22) := ⟨_, rfl⟩
        have hbt : Below ws.heap.size ws wt := by rw [hwt]; exact (Below.refl _ _).alloc (Nat.le_refl _) _
        have hxt : wt.heap[ws.heap.size]? = some (.cells #[.slice OA n oc, .slice RA r rc] 22 (0, 0)) := by rw [hwt]; exact alloc1 _ _
        have hb5t := HB5S.out.trans (hbt.mono HB5S.out.size)
        have HB5T := Lib.hid hb5t
        have HBT := Lib.hid hbt
        have HLS : Hid (∀ (k : Nat) (w' : World), k < 2 → Below wt.heap.size wt w' → ∃ (v : Value) (L : List Msg), w'.cell? ⟨ws.heap.size, k, none⟩ = some v ∧ SlM w' v L ∧ L.length ≤ 40) := Lib.hid fun k w' hk hb => by
          have hx := (hb.block _ (lt_of_heap hxt)).trans hxt
          have h1 := HNL.out
          have h2 := HRL.out
          have hb5 := hb5t.trans (hb.mono hb5t.size)
          obtain rfl | rfl : k = 0 ∨ k = 1 := by omega
          · exact ⟨_, old, (Lib.cell_of_heap hx _).trans rfl, HO5.out.below hb5, by omega⟩
          · exact ⟨_, raw, (Lib.cell_of_heap hx _).trans rfl, HR5.out.below hb5, h2.1⟩
        have HWT := Lib.hid hwt
        have hyw := lt_of_heap HY.out
        clear hn1 hn2 hn3 hwt hbt hxt hb5t
        go_wp2_with fail
        skip
        rw [← HWT.out]
        go_loopw [150] (fun i wr => ∃ k : Nat, k ≤ 2 ∧ i = .int .i64 k ∧ Below wt.heap.size wt wr) (fun i _ => 2 - (intOf i).toNat)
        case atStart => exact ⟨0, by omega, rfl, Below.refl _ _⟩
        case round =>
          obtain ⟨k, hk2, rfl, hB⟩ := hrel
          obtain ⟨wu, hwu⟩ : ∃ wu, wu = wr := ⟨_, rfl⟩
          rw [← hwu] at hB ⊢
          clear hwu
          have hbsu := HBT.out.trans (hB.mono HBT.out.size)
          have hxy := (hbsu.block _ (lt_of_heap HY.out)).trans HY.out
          have u0 : wu.cell? ⟨Y, 0, none⟩ = some (.slice E1 (m1 + 1) e1) := (Lib.cell_of_heap hxy 0).trans rfl
          have u1 : wu.cell? ⟨Y, 1, none⟩ = some (.slice D2 m2 d2) := (Lib.cell_of_heap hxy 1).trans rfl
          have u2 : wu.cell? ⟨Y, 2, none⟩ = some (.slice D3 m3 d3) := (Lib.cell_of_heap hxy 2).trans rfl
          by_cases hlt : k < 2
          · obtain ⟨v, L, p0, hS, hl⟩ := HLS.out k wu hlt hB
            obtain ⟨LA, lc, rfl, hln, _, hlr⟩ := hS
            have hik : (0 : Int) ≤ (k : Int) ∧ (k : Int) < 2 := ⟨by omega, by omega⟩
            have hap := apply_any L yd _ LA lc wu (by omega) hln hlr (HEM.out wu hbsu) (by rw [← HYN.out.1, ← HYN.out.2.1, ← HYN.out.2.2]; omega)
            have HRP : Hid (∀ w', Below wu.heap.size wu w' → Calls Try.prog 19 #[.slice LA L.length lc, .agg #[.slice E1 (m1 + 1) e1, .slice D2 m2 d2, .slice D3 m3 d3]] w' (ApRes (applyM L yd) w')) := Lib.hid fun w' hb => rapply_any L yd _ LA lc w' (by omega) (hlr.below hb) (HEM.out w' (hbsu.trans (hb.mono hbsu.size))) (by rw [← HYN.out.1, ← HYN.out.2.1, ← HYN.out.2.2]; omega)
            have hyu := lt_of_heap hxy
            have HXY := Lib.hid hxy
            have HAP := Lib.hid hap
            obtain ⟨l, hl'⟩ : ∃ l, l = L.length := ⟨_, rfl⟩
            rw [← hl'] at hl HAP HRP p0
            have HLX := Lib.hid hl'
            have HB := Lib.hid hB
            clear hln hlr hap hl' hB hbsu hxy
            go_wp2_with fail
            clear p0 u0 u1 u2
            refine HAP.out.mono ?_
            rintro e w7 hap
            have hlen := fun l => apply_len (L := L) (d := yd) (l := l)
            rw [← HYN.out.2.1, ← HYN.out.2.2, ← HLX.out] at hlen
            obtain ⟨o, ho⟩ : ∃ o, o = applyM L yd := ⟨_, rfl⟩
            rw [← ho] at hap HRP hlen
            have HLEN := Lib.hid hlen
            clear ho HAP hlen
            obtain ⟨v7, l7, rfl, rfl, hown7, hb7⟩ | ⟨rfl, rfl, hb7⟩ := hap
            · have hxy7 := (hb7.block _ (lt_of_heap HXY.out)).trans HXY.out
              have u0 : w7.cell? ⟨Y, 0, none⟩ = some (.slice E1 (m1 + 1) e1) := (Lib.cell_of_heap hxy7 0).trans rfl
              have u1 : w7.cell? ⟨Y, 1, none⟩ = some (.slice D2 m2 d2) := (Lib.cell_of_heap hxy7 1).trans rfl
              have u2 : w7.cell? ⟨Y, 2, none⟩ = some (.slice D3 m3 d3) := (Lib.cell_of_heap hxy7 2).trans rfl
              obtain ⟨UA, uc, rfl, _⟩ := own_slice hown7
              have HO7 := Lib.hid hown7
              have HRP7 := Lib.hid (HRP.out w7 hb7)
              have HB7 := Lib.hid (HB.out.trans (hb7.mono HB.out.size))
              obtain ⟨j7, hj7⟩ : ∃ j, j = l7.length := ⟨_, rfl⟩
              rw [← hj7]
              have HJ7 := Lib.hid hj7
              have hbnd : l7.length ≤ 1000000 := by
                have := HLEN.out l7 rfl
                omega
              rw [← hj7] at hbnd
              clear hown7 hb7 hxy7 hj7 HRP HB
              go_wp2_with fail
              clear u0 u1 u2
              refine HRP7.out.mono ?_
              rintro e w8 hap
              obtain ⟨v8, l8, e8, rfl, hown8, hb8⟩ | ⟨e8, _⟩ := hap
              rotate_left
              · cases e8
              obtain rfl : l7 = l8 := Option.some.inj e8
              obtain ⟨TA, tc, rfl, _⟩ := own_slice hown8
              have hsl := sameList_any l7 l7 UA TA uc tc w8 (by rw [← HJ7.out]; exact hbnd) (Row.ofOwn ((Kp.ofBelow (M := fun _ => False) hb8).own HO7.out fun _ _ e => e) fun _ _ _ h => h) (Row.ofOwn hown8 fun _ _ _ h => h)
              rw [← HJ7.out] at hsl ⊢
              have HSL := Lib.hid hsl
              have HB8 := Lib.hid (HB7.out.trans (hb8.mono HB7.out.size))
              clear hown8 hb8 hsl HRP7 HO7 HB7
              go_wp2_with fail
              refine HSL.out.mono ?_
              rintro e w9 ⟨r9, rfl, hr9, hb9⟩
              obtain rfl : r9 = true := by simpa using hr9
              have HB9 := Lib.hid (HB8.out.trans (hb9.mono HB8.out.size))
              clear hr9 hb9 HSL HB8
              go_wp2_with fail
              first | go_roundw | refine ⟨?rel, ?measure⟩
              case rel => exact ⟨k + 1, by omega, by go_num, HB9.out⟩
              case measure => simp [intOf]; omega
            · have hxy7 := (hb7.block _ (lt_of_heap HXY.out)).trans HXY.out
              have u0 : w7.cell? ⟨Y, 0, none⟩ = some (.slice E1 (m1 + 1) e1) := (Lib.cell_of_heap hxy7 0).trans rfl
              have u1 : w7.cell? ⟨Y, 1, none⟩ = some (.slice D2 m2 d2) := (Lib.cell_of_heap hxy7 1).trans rfl
              have u2 : w7.cell? ⟨Y, 2, none⟩ = some (.slice D3 m3 d3) := (Lib.cell_of_heap hxy7 2).trans rfl
              have HRP7 := Lib.hid (HRP.out w7 hb7)
              have HB7 := Lib.hid (HB.out.trans (hb7.mono HB.out.size))
              clear hb7 hxy7 HRP HB
              go_wp2_with fail
              clear u0 u1 u2
              refine HRP7.out.mono ?_
              rintro e w8 hap
              obtain ⟨v8, l8, e8, _⟩ | ⟨_, rfl, hb8⟩ := hap
              · cases e8
              have hsl := sameList_any [] [] none none 0 0 w8 (by simp) (Row.nil _ _ _) (Row.nil _ _ _)
              have HSL := Lib.hid hsl
              have HB8 := Lib.hid (HB7.out.trans (hb8.mono HB7.out.size))
              clear hb8 hsl HRP7 HB7
              go_wp2_with fail
              refine HSL.out.mono ?_
              rintro e w9 ⟨r9, rfl, hr9, hb9⟩
              obtain rfl : r9 = true := by simpa using hr9
              have HB9 := Lib.hid (HB8.out.trans (hb9.mono HB8.out.size))
              clear hr9 hb9 HSL HB8
              go_wp2_with fail
              first | go_roundw | refine ⟨?rel, ?measure⟩
              case rel => exact ⟨k + 1, by omega, by go_num, HB9.out⟩
              case measure => simp [intOf]; omega
          · have hq0 : decide ((k : Int) < 2) = false := by simp; omega
            have hb5u := HB5T.out.trans (hB.mono HB5T.out.size)
            have h05 := HB5.out
            have hbwu := h05.trans (hb5u.mono h05.size)
            have hx0u := (hbwu.block _ (lt_of_heap HX0.out)).trans HX0.out
            have HCY : Hid (AtCells [(⟨Y, 0, none⟩, .slice E1 (m1 + 1) e1), (⟨Y, 1, none⟩, .slice D2 m2 d2), (⟨Y, 2, none⟩, .slice D3 m3 d3), (⟨w.heap.size, 0, none⟩, .slice X1 xg xc1), (⟨w.heap.size, 1, none⟩, .slice X2 xc xc2), (⟨w.heap.size, 2, none⟩, .slice X3 xm xc3)] wu) := Lib.hid ⟨u0, u1, u2, (Lib.cell_of_heap hx0u 0).trans rfl, (Lib.cell_of_heap hx0u 1).trans rfl, (Lib.cell_of_heap hx0u 2).trans rfl, trivial⟩
            have HYU := Lib.hid fun w' (hb : Below wu.heap.size wu w') => HEM.out w' (hbsu.trans (hb.mono hbsu.size))
            have HXU := Lib.hid fun w' (hb : Below wu.heap.size wu w') => HXV.out w' (hbwu.trans (hb.mono hbwu.size))
            have HBWU := Lib.hid (HB0.out.trans (hbwu.mono HB0.out.size))
            obtain ⟨qy, hqy⟩ : ∃ qy, qy = decide (yd.gone.length + yd.come.length + yd.moved.length = 0) := ⟨_, rfl⟩
            obtain ⟨qx, hqx⟩ : ∃ qx, qx = decide (x.gone.length + x.come.length + x.moved.length = 0) := ⟨_, rfl⟩
            have HQY := Lib.hid hqy
            have HQX := Lib.hid hqx
            clear hB hlt hb5u h05 hbwu hx0u hbsu hxy u0 u1 u2 hqy hqx
            go_wp2_with fail
            refine wp_region_mix (AtCells [(⟨Y, 0, none⟩, .slice E1 (m1 + 1) e1), (⟨Y, 1, none⟩, .slice D2 m2 d2), (⟨Y, 2, none⟩, .slice D3 m3 d3), (⟨w.heap.size, 0, none⟩, .slice X1 xg xc1), (⟨w.heap.size, 1, none⟩, .slice X2 xc xc2), (⟨w.heap.size, 2, none⟩, .slice X3 xm xc3)]) [(true, 0), (true, 2), (false, 1), (false, 3), (true, 4), (true, 5), (true, 6), (true, 8), (false, 7), (false, 9), (true, 10), (true, 11), (true, 12), (false, 13), (true, 14)] [15] (by kernel_rfl) (by kernel_rfl) ?szb ?hzb
            case szb => exact HCY.out.below (Below.refl _ wu).drew
            case hzb =>
            simp only [mixAt, List.filterMap_cons, List.filterMap_nil, List.getElem?_toArray, List.getElem?_cons_succ, List.getElem?_cons_zero, Option.map_some]
            refine wpMix_load ?vbna0 rfl (fun w' hS => ?ybna0) ?kbna0
            case ybna0 =>
              obtain ⟨g0, g1, g2, g3, g4, g5, _⟩ := hS
              go_simp
              try rfl
            case kbna0 =>
            go_simp
            refine wpMix_load ?vbnb2 rfl (fun w' hS => ?ybnb2) ?kbnb2
            case ybnb2 =>
              obtain ⟨g0, g1, g2, g3, g4, g5, _⟩ := hS
              go_simp
              try rfl
            case kbnb2 =>
            go_simp
            have hem := empty_any _ yd _ wu.drew (HYU.out wu.drew (Below.refl _ wu).drew) (by rw [← HYN.out.1, ← HYN.out.2.1, ← HYN.out.2.2]; omega)
            rw [← HQY.out] at hem
            refine wpMix_keep rfl ?_
            go_wp2_with fail
            refine hem.mono ?_
            clear hem
            rintro e u7 ⟨rfl, hb7⟩
            have HB7 := Lib.hid (show Below wu.heap.size wu u7 from (Below.refl _ wu).drew.trans hb7)
            have hem := rempty_any _ yd _ u7 (HYU.out u7 HB7.out) (by rw [← HYN.out.1, ← HYN.out.2.1, ← HYN.out.2.2]; omega)
            rw [← HQY.out] at hem
            have HE7 := Lib.hid hem
            have hs7 := HB7.out.size
            clear hb7 hem
            refine ⟨HCY.out.below HB7.out, ?_⟩
            refine wpMix_keep rfl ?_
            go_wp2_with fail
            refine HE7.out.mono ?_
            rintro e u8 ⟨rfl, hb8⟩
            have HB8 := Lib.hid (HB7.out.trans (hb8.mono HB7.out.size))
            clear hb8 HE7 HB7
            refine ⟨HCY.out.below HB8.out, ?_⟩
            go_simp
            refine wpMix_load ?vbnc4 rfl (fun w' hS => ?ybnc4) ?kbnc4
            case ybnc4 =>
              obtain ⟨g0, g1, g2, g3, g4, g5, _⟩ := hS
              go_simp
              try rfl
            case kbnc4 =>
            go_simp
            refine wpMix_load ?vbnc5 rfl (fun w' hS => ?ybnc5) ?kbnc5
            case ybnc5 =>
              obtain ⟨g0, g1, g2, g3, g4, g5, _⟩ := hS
              go_simp
              try rfl
            case kbnc5 =>
            go_simp
            refine wpMix_load ?vbnc6 rfl (fun w' hS => ?ybnc6) ?kbnc6
            case ybnc6 =>
              obtain ⟨g0, g1, g2, g3, g4, g5, _⟩ := hS
              go_simp
              try rfl
            case kbnc6 =>
            go_simp
            refine wpMix_load ?vbnd8 rfl (fun w' hS => ?ybnd8) ?kbnd8
            case ybnd8 =>
              obtain ⟨g0, g1, g2, g3, g4, g5, _⟩ := hS
              go_simp
              try rfl
            case kbnd8 =>
            go_simp
            have hem := empty_any _ x _ u8 (HXU.out u8 HB8.out) (by rw [← HXN.out.1, ← HXN.out.2.1, ← HXN.out.2.2]; omega)
            rw [← HQX.out] at hem
            refine wpMix_keep rfl ?_
            go_wp2_with fail
            refine hem.mono ?_
            clear hem
            rintro e u9 ⟨rfl, hb9⟩
            have HB9 := Lib.hid (HB8.out.trans (hb9.mono HB8.out.size))
            have hem := rempty_any _ x _ u9 (HXU.out u9 HB9.out) (by rw [← HXN.out.1, ← HXN.out.2.1, ← HXN.out.2.2]; omega)
            rw [← HQX.out] at hem
            have HE9 := Lib.hid hem
            clear hb9 hem HB8
            refine ⟨HCY.out.below HB9.out, ?_⟩
            refine wpMix_keep rfl ?_
            go_wp2_with fail
            refine HE9.out.mono ?_
            rintro e u10 ⟨rfl, hb10⟩
            have HB10 := Lib.hid (HB9.out.trans (hb10.mono HB9.out.size))
            clear hb10 HE9 HB9
            refine ⟨HCY.out.below HB10.out, ?_⟩
            go_simp
            refine wpMix_load ?vbne10 rfl (fun w' hS => ?ybne10) ?kbne10
            case ybne10 =>
              obtain ⟨g0, g1, g2, g3, g4, g5, _⟩ := hS
              go_simp
              try rfl
            case kbne10 =>
            go_simp
            refine wpMix_load ?vbne11 rfl (fun w' hS => ?ybne11) ?kbne11
            case ybne11 =>
              obtain ⟨g0, g1, g2, g3, g4, g5, _⟩ := hS
              go_simp
              try rfl
            case kbne11 =>
            go_simp
            refine wpMix_load ?vbne12 rfl (fun w' hS => ?ybne12) ?kbne12
            case ybne12 =>
              obtain ⟨g0, g1, g2, g3, g4, g5, _⟩ := hS
              go_simp
              try rfl
            case kbne12 =>
            go_simp
            have HAW := Lib.hid (awake_any u10)
            refine wpMix_keep rfl ?_
            go_wp2_with fail
            refine HAW.out.mono ?_
            rintro e u11 ⟨rfl, hb11⟩
            have HB11 := Lib.hid (HB10.out.trans (hb11.mono HB10.out.size))
            have HEND := Lib.hid (HBWU.out.trans (HB11.out.mono HBWU.out.size))
            refine ⟨HCY.out.below HB11.out, ?_⟩
            clear hb11 HAW HB10 HB11
            go_simp
            refine wpMix_load ?vbnf14 rfl (fun w' hS => ?ybnf14) ?kbnf14
            case ybnf14 =>
              obtain ⟨g0, g1, g2, g3, g4, g5, _⟩ := hS
              go_simp
              try rfl
            case kbnf14 =>
            go_simp
            refine wpMix_nil ?_
            simp only [opsAt, List.filterMap_cons, List.filterMap_nil, List.getElem?_toArray, List.getElem?_cons_succ, List.getElem?_cons_zero]
            go_wp2
            refine NoPanic.normal ?_
            go_wp2
            go_ret
            exact ⟨rfl, HEND.out⟩
      · have HC : Hid (AtCells [(⟨Y, 2, none⟩, .slice D3 m3 d3)] w7) := Lib.hid ⟨(Lib.cell_of_heap HY7.out 2).trans rfl, trivial⟩
        have HMB := Lib.hid (mod_any by_ 6 w7.drew HBY.out.1 HBY.out.2 (by omega) (by omega))
        go_wp2_with fail
        refine wp_region_mix (AtCells [(⟨Y, 2, none⟩, .slice D3 m3 d3)]) [(true, 0), (true, 1), (true, 2), (true, 4), (false, 3), (true, 5), (false, 6)] [7, 8, 9] (by kernel_rfl) (by kernel_rfl) ?sac ?hac
        case sac => exact HC.out.below (Below.refl _ w7).drew
        case hac =>
        simp only [mixAt, List.filterMap_cons, List.filterMap_nil, List.getElem?_toArray, List.getElem?_cons_succ, List.getElem?_cons_zero, Option.map_some]
        refine wpMix_load ?vpac0 rfl (fun w' hS => ?ypac0) ?kpac0
        case ypac0 =>
          obtain ⟨g0, _⟩ := hS
          go_simp
          try rfl
        case kpac0 =>
        go_simp
        refine wpMix_load ?vpac1 rfl (fun w' hS => ?ypac1) ?kpac1
        case ypac1 =>
          obtain ⟨g0, _⟩ := hS
          go_simp
          try rfl
        case kpac1 =>
        go_simp
        refine wpMix_load ?vpac2 rfl (fun w' hS => ?ypac2) ?kpac2
        case ypac2 =>
          obtain ⟨g0, _⟩ := hS
          go_simp
          try rfl
        case kpac2 =>
        go_simp
        refine wpMix_load ?vpbc4 rfl (fun w' hS => ?ypbc4) ?kpbc4
        case ypbc4 =>
          obtain ⟨g0, _⟩ := hS
          go_simp
          try rfl
        case kpbc4 =>
        go_simp
        refine wpMix_keep rfl ?_
        go_wp2_with fail
        refine HMB.out.mono ?_
        rintro e w9 ⟨rfl, rfl⟩
        clear HMB
        refine ⟨HC.out.below (Below.refl _ w7).drew, ?_⟩
        go_simp
        refine wpMix_load ?vpcc5 rfl (fun w' hS => ?ypcc5) ?kpcc5
        case ypcc5 =>
          obtain ⟨g0, _⟩ := hS
          go_simp
          try rfl
        case kpcc5 =>
        go_simp
        refine wpMix_keep rfl ?_
        go_simp
        obtain ⟨w9, hw9⟩ : ∃ w9, w9 = (w7.alloc (.cells #[.int .i64 (by_ % 6), .int .i64 2, .int .i64 2, .int .i64 1, .string ⟨#[]⟩] 42)).drew := ⟨_, rfl⟩
        have hb9 : Below w7.heap.size w7 w9 := by rw [hw9]; exact ((Below.refl _ _).alloc (Nat.le_refl _) _).drew
        have hx9 : w9.heap[w7.heap.size]? = some (.cells #[.int .i64 (by_ % 6), .int .i64 2, .int .i64 2, .int .i64 1, .string ⟨#[]⟩] 42 (0, 0)) := by rw [hw9]; exact alloc1 w7 _
        rw [← hw9]
        refine ⟨HC.out.below hb9, ?_⟩
        refine wpMix_nil ?_
        have hk9 := Kp.ofBelow (M := fun _ => False) hb9
        have h1 := hk9.own HD1.out fun _ _ e => e
        have h2 := hk9.own HD2.out fun _ _ e => e
        have h3 := hk9.own HD3.out fun _ _ e => e
        have hY9 := (hb9.block _ (lt_of_heap HY7.out)).trans HY7.out
        have hrow : Row w9 (fun y => y = w7.heap.size) (some ⟨w7.heap.size, 0, none⟩) (mvC (by_ % 6, 2, 2, 1, [])) := row_heap hx9 rfl rfl
        have hs9 := hb9.size
        clear HC hw9 hx9
        simp only [opsAt, List.filterMap_cons, List.filterMap_nil, List.getElem?_toArray, List.getElem?_cons_succ, List.getElem?_cons_zero]
        refine (wpList_append_row rfl _ _ 23 rfl wx.heap.size 42 i5 _ 5 48 Try.underlying23 hj hy0 hy1 hy2 rfl (by omega) (.slice D3 m3 d3) m3 (flt mvC od.moved) rfl h3 (fun y => y = w7.heap.size) (some ⟨w7.heap.size, 0, none⟩) 1 1 (mvC (by_ % 6, 2, 2, 1, [])) rfl rfl hrow (mvC_one _) (by unfold maxLen; omega) (by omega) (by omega) ?_)
        intro v' w10 hown hg hat
        obtain ⟨E1, e1, rfl, _⟩ := own_slice hown
        have hk10 : Kp (fun y => (Value.slice D3 m3 d3).ownBlock = some y) w9 w10 := (Kp.refl _ _).grown hg fun q hq _ => hq
        have hs10 := hk10.size
        have hYlt : w7.heap.size = Y + 1 := by rw [HYE.out]; exact HS7.out
        have hY10 := hk10.heap hY9 fun e => by have := (HLT.out.2.2 _ e).2; have := HYE.out; omega
        have hf10 : w10.frozen? ⟨Y, 2, none⟩ = false := Lib.frozen_of_heap hY10 2
        have hc10 : w10.cell? ⟨Y, 2, none⟩ = some (.slice D3 m3 d3) := (Lib.cell_of_heap hY10 2).trans rfl
        obtain ⟨ws, hws⟩ : ∃ ws, ws = w10.setCell ⟨Y, 2, none⟩ (.slice E1 (m3 + 1) e1) := ⟨_, rfl⟩
        have hks : Kp (fun y => y = Y) w10 ws := by rw [hws]; exact Kp.setCell (M := fun y => y = Y) (Kp.refl _ _) (fun _ => rfl) _
        have hYs : ws.heap[Y]? = some (.cells (#[.slice D1 m1 d1, .slice D2 m2 d2, .slice E1 (m3 + 1) e1]) 25 (0, 0)) := by rw [hws]; exact setCell_heap (w := w10) hY10
        have hnY : ∀ g, (Value.slice E1 (m3 + 1) e1).ownBlock = some g → ¬ g = Y := fun g hg e => by
          rcases hat with h | h
          · rw [h] at hg
            have := (HLT.out.2.2 _ hg).2
            have := HYE.out
            omega
          · rw [h] at hg
            have : w9.heap.size = g := Option.some.inj hg
            omega
        have hb10 : Below w5.heap.size w5 w10 := kp_below (HB57.out.trans (hb9.mono HB57.out.size)) hk10 fun y e => by have := (HLT.out.2.2 _ e).1; omega
        have HB5S := Lib.hid (kp_below hb10 hks fun y e => by have := HYE.out; omega)
        obtain ⟨yd, hyd⟩ : ∃ yd : Dl, yd = (⟨od.gone, od.come, od.moved ++ [(by_ % 6, 2, 2, 1, [])]⟩) := ⟨_, rfl⟩
        have HYL : Hid (yd.gone.length ≤ 100 ∧ yd.come.length ≤ 100 ∧ yd.moved.length ≤ 100) := Lib.hid (by rw [hyd]; simp only [List.length_append, List.length_cons, List.length_nil, ← HMM.out.1, ← HMM.out.2.1, ← HMM.out.2.2]; omega)
        have ho1 := hks.own hown fun g hg => hnY g hg
        have ho2 := hks.own (hk10.own h1 (fun g hg e => (HNE.out.1 g hg).2 e)) fun g hg e => by have := (HLT.out.1 g hg).2; have := HYE.out; omega
        have ho3 := hks.own (hk10.own h2 (fun g hg e => HNE.out.2 g hg e)) fun g hg e => by have := (HLT.out.2.1 g hg).2; have := HYE.out; omega
        have HDY : Hid (DlV ws (Lt ws.heap.size) (.agg (#[.slice D1 m1 d1, .slice D2 m2 d2, .slice E1 (m3 + 1) e1])) yd) := Lib.hid (by
          rw [hyd]
          exact dl_own (b1 := wx.heap.size) (b2 := wx.heap.size) (b3 := wx.heap.size) ((by rw [← HMM.out.1]; exact ho2)) ((by rw [← HMM.out.2.1]; exact ho3)) ((by rw [List.length_append, flt_append, flt_one, ← HMM.out.2.2]; exact ho1)))
        have HY := Lib.hid hYs
        have HWS := Lib.hid hws
        clear hb9 hk9 h1 h2 h3 hY9 hrow hown hg hat hk10 hY10 hws hks hYs hnY hb10 hyd ho1 ho2 ho3 hYlt
        go_wp2
        rw [← HWS.out]
        refine NoPanic.normal ?_
        clear hf10 hc10
        go_wp2_with fail
        -- the difference yd lies in the box at Y (world ws): HY HDY HYL HB5S
        obtain ⟨n1, hn1⟩ : ∃ n1, n1 = yd.gone.length := ⟨_, rfl⟩
        obtain ⟨n2, hn2⟩ : ∃ n2, n2 = yd.come.length := ⟨_, rfl⟩
        obtain ⟨n3, hn3⟩ : ∃ n3, n3 = yd.moved.length := ⟨_, rfl⟩
        have hyl := HYL.out
        rw [← hn1, ← hn2, ← hn3] at hyl
        obtain ⟨hyl1, hyl2, hyl3⟩ := hyl
        have hyc : D1 = D1 ∧ m1 = n1 ∧ m2 = n2 ∧ (m3 + 1) = n3 := by
          obtain ⟨a1, a2, a3, z1, z2, z3, he, _⟩ := HDY.out
          have he : (D1 = a1 ∧ m1 = yd.gone.length ∧ d1 = z1) ∧ (D2 = a2 ∧ m2 = yd.come.length ∧ d2 = z2) ∧ (E1 = a3 ∧ (m3 + 1) = yd.moved.length ∧ e1 = z3) := by simpa using he
          exact ⟨rfl, he.1.2.1.trans hn1.symm, he.2.1.2.1.trans hn2.symm, he.2.2.2.1.trans hn3.symm⟩
        have HYN := Lib.hid (And.intro hn1 (And.intro hn2 hn3))
        obtain ⟨_, rfl, rfl, rfl⟩ := hyc
        have HEM : Hid (∀ w', Below ws.heap.size ws w' → DlV w' (Lt w'.heap.size) (.agg #[.slice D1 m1 d1, .slice D2 m2 d2, .slice E1 (m3 + 1) e1]) yd) := Lib.hid fun w' hb => HDY.out.below hb
        obtain ⟨wt, hwt⟩ : ∃ wt, wt = ws.alloc (.cells #[.slice OA n oc, .slice RA r rc] 22) := ⟨_, rfl⟩
        have hbt : Below ws.heap.size ws wt := by rw [hwt]; exact (Below.refl _ _).alloc (Nat.le_refl _) _
        have hxt : wt.heap[ws.heap.size]? = some (.cells #[.slice OA n oc, .slice RA r rc] 22 (0, 0)) := by rw [hwt]; exact alloc1 _ _
        have hb5t := HB5S.out.trans (hbt.mono HB5S.out.size)
        have HB5T := Lib.hid hb5t
        have HBT := Lib.hid hbt
        have HLS : Hid (∀ (k : Nat) (w' : World), k < 2 → Below wt.heap.size wt w' → ∃ (v : Value) (L : List Msg), w'.cell? ⟨ws.heap.size, k, none⟩ = some v ∧ SlM w' v L ∧ L.length ≤ 40) := Lib.hid fun k w' hk hb => by
          have hx := (hb.block _ (lt_of_heap hxt)).trans hxt
          have h1 := HNL.out
          have h2 := HRL.out
          have hb5 := hb5t.trans (hb.mono hb5t.size)
          obtain rfl | rfl : k = 0 ∨ k = 1 := by omega
          · exact ⟨_, old, (Lib.cell_of_heap hx _).trans rfl, HO5.out.below hb5, by omega⟩
          · exact ⟨_, raw, (Lib.cell_of_heap hx _).trans rfl, HR5.out.below hb5, h2.1⟩
        have HWT := Lib.hid hwt
        have hyw := lt_of_heap HY.out
        clear hn1 hn2 hn3 hwt hbt hxt hb5t
        go_wp2_with fail
        skip
        rw [← HWT.out]
        go_loopw [150] (fun i wr => ∃ k : Nat, k ≤ 2 ∧ i = .int .i64 k ∧ Below wt.heap.size wt wr) (fun i _ => 2 - (intOf i).toNat)
        case atStart => exact ⟨0, by omega, rfl, Below.refl _ _⟩
        case round =>
          obtain ⟨k, hk2, rfl, hB⟩ := hrel
          obtain ⟨wu, hwu⟩ : ∃ wu, wu = wr := ⟨_, rfl⟩
          rw [← hwu] at hB ⊢
          clear hwu
          have hbsu := HBT.out.trans (hB.mono HBT.out.size)
          have hxy := (hbsu.block _ (lt_of_heap HY.out)).trans HY.out
          have u0 : wu.cell? ⟨Y, 0, none⟩ = some (.slice D1 m1 d1) := (Lib.cell_of_heap hxy 0).trans rfl
          have u1 : wu.cell? ⟨Y, 1, none⟩ = some (.slice D2 m2 d2) := (Lib.cell_of_heap hxy 1).trans rfl
          have u2 : wu.cell? ⟨Y, 2, none⟩ = some (.slice E1 (m3 + 1) e1) := (Lib.cell_of_heap hxy 2).trans rfl
          by_cases hlt : k < 2
          · obtain ⟨v, L, p0, hS, hl⟩ := HLS.out k wu hlt hB
            obtain ⟨LA, lc, rfl, hln, _, hlr⟩ := hS
            have hik : (0 : Int) ≤ (k : Int) ∧ (k : Int) < 2 := ⟨by omega, by omega⟩
            have hap := apply_any L yd _ LA lc wu (by omega) hln hlr (HEM.out wu hbsu) (by rw [← HYN.out.1, ← HYN.out.2.1, ← HYN.out.2.2]; omega)
            have HRP : Hid (∀ w', Below wu.heap.size wu w' → Calls Try.prog 19 #[.slice LA L.length lc, .agg #[.slice D1 m1 d1, .slice D2 m2 d2, .slice E1 (m3 + 1) e1]] w' (ApRes (applyM L yd) w')) := Lib.hid fun w' hb => rapply_any L yd _ LA lc w' (by omega) (hlr.below hb) (HEM.out w' (hbsu.trans (hb.mono hbsu.size))) (by rw [← HYN.out.1, ← HYN.out.2.1, ← HYN.out.2.2]; omega)
            have hyu := lt_of_heap hxy
            have HXY := Lib.hid hxy
            have HAP := Lib.hid hap
            obtain ⟨l, hl'⟩ : ∃ l, l = L.length := ⟨_, rfl⟩
            rw [← hl'] at hl HAP HRP p0
            have HLX := Lib.hid hl'
            have HB := Lib.hid hB
            clear hln hlr hap hl' hB hbsu hxy
            go_wp2_with fail
            clear p0 u0 u1 u2
            refine HAP.out.mono ?_
            rintro e w7 hap
            have hlen := fun l => apply_len (L := L) (d := yd) (l := l)
            rw [← HYN.out.2.1, ← HYN.out.2.2, ← HLX.out] at hlen
            obtain ⟨o, ho⟩ : ∃ o, o = applyM L yd := ⟨_, rfl⟩
            rw [← ho] at hap HRP hlen
            have HLEN := Lib.hid hlen
            clear ho HAP hlen
            obtain ⟨v7, l7, rfl, rfl, hown7, hb7⟩ | ⟨rfl, rfl, hb7⟩ := hap
            · have hxy7 := (hb7.block _ (lt_of_heap HXY.out)).trans HXY.out
              have u0 : w7.cell? ⟨Y, 0, none⟩ = some (.slice D1 m1 d1) := (Lib.cell_of_heap hxy7 0).trans rfl
              have u1 : w7.cell? ⟨Y, 1, none⟩ = some (.slice D2 m2 d2) := (Lib.cell_of_heap hxy7 1).trans rfl
              have u2 : w7.cell? ⟨Y, 2, none⟩ = some (.slice E1 (m3 + 1) e1) := (Lib.cell_of_heap hxy7 2).trans rfl
              obtain ⟨UA, uc, rfl, _⟩ := own_slice hown7
              have HO7 := Lib.hid hown7
              have HRP7 := Lib.hid (HRP.out w7 hb7)
              have HB7 := Lib.hid (HB.out.trans (hb7.mono HB.out.size))
              obtain ⟨j7, hj7⟩ : ∃ j, j = l7.length := ⟨_, rfl⟩
              rw [← hj7]
              have HJ7 := Lib.hid hj7
              have hbnd : l7.length ≤ 1000000 := by
                have := HLEN.out l7 rfl
                omega
              rw [← hj7] at hbnd
              clear hown7 hb7 hxy7 hj7 HRP HB
              go_wp2_with fail
              clear u0 u1 u2
              refine HRP7.out.mono ?_
              rintro e w8 hap
              obtain ⟨v8, l8, e8, rfl, hown8, hb8⟩ | ⟨e8, _⟩ := hap
              rotate_left
              · cases e8
              obtain rfl : l7 = l8 := Option.some.inj e8
              obtain ⟨TA, tc, rfl, _⟩ := own_slice hown8
              have hsl := sameList_any l7 l7 UA TA uc tc w8 (by rw [← HJ7.out]; exact hbnd) (Row.ofOwn ((Kp.ofBelow (M := fun _ => False) hb8).own HO7.out fun _ _ e => e) fun _ _ _ h => h) (Row.ofOwn hown8 fun _ _ _ h => h)
              rw [← HJ7.out] at hsl ⊢
              have HSL := Lib.hid hsl
              have HB8 := Lib.hid (HB7.out.trans (hb8.mono HB7.out.size))
              clear hown8 hb8 hsl HRP7 HO7 HB7
              go_wp2_with fail
              refine HSL.out.mono ?_
              rintro e w9 ⟨r9, rfl, hr9, hb9⟩
              obtain rfl : r9 = true := by simpa using hr9
              have HB9 := Lib.hid (HB8.out.trans (hb9.mono HB8.out.size))
              clear hr9 hb9 HSL HB8
              go_wp2_with fail
              first | go_roundw | refine ⟨?rel, ?measure⟩
              case rel => exact ⟨k + 1, by omega, by go_num, HB9.out⟩
              case measure => simp [intOf]; omega
            · have hxy7 := (hb7.block _ (lt_of_heap HXY.out)).trans HXY.out
              have u0 : w7.cell? ⟨Y, 0, none⟩ = some (.slice D1 m1 d1) := (Lib.cell_of_heap hxy7 0).trans rfl
              have u1 : w7.cell? ⟨Y, 1, none⟩ = some (.slice D2 m2 d2) := (Lib.cell_of_heap hxy7 1).trans rfl
              have u2 : w7.cell? ⟨Y, 2, none⟩ = some (.slice E1 (m3 + 1) e1) := (Lib.cell_of_heap hxy7 2).trans rfl
              have HRP7 := Lib.hid (HRP.out w7 hb7)
              have HB7 := Lib.hid (HB.out.trans (hb7.mono HB.out.size))
              clear hb7 hxy7 HRP HB
              go_wp2_with fail
              clear u0 u1 u2
              refine HRP7.out.mono ?_
              rintro e w8 hap
              obtain ⟨v8, l8, e8, _⟩ | ⟨_, rfl, hb8⟩ := hap
              · cases e8
              have hsl := sameList_any [] [] none none 0 0 w8 (by simp) (Row.nil _ _ _) (Row.nil _ _ _)
              have HSL := Lib.hid hsl
              have HB8 := Lib.hid (HB7.out.trans (hb8.mono HB7.out.size))
              clear hb8 hsl HRP7 HB7
              go_wp2_with fail
              refine HSL.out.mono ?_
              rintro e w9 ⟨r9, rfl, hr9, hb9⟩
              obtain rfl : r9 = true := by simpa using hr9
              have HB9 := Lib.hid (HB8.out.trans (hb9.mono HB8.out.size))
              clear hr9 hb9 HSL HB8
              go_wp2_with fail
              first | go_roundw | refine ⟨?rel, ?measure⟩
              case rel => exact ⟨k + 1, by omega, by go_num, HB9.out⟩
              case measure => simp [intOf]; omega
          · have hq0 : decide ((k : Int) < 2) = false := by simp; omega
            have hb5u := HB5T.out.trans (hB.mono HB5T.out.size)
            have h05 := HB5.out
            have hbwu := h05.trans (hb5u.mono h05.size)
            have hx0u := (hbwu.block _ (lt_of_heap HX0.out)).trans HX0.out
            have HCY : Hid (AtCells [(⟨Y, 0, none⟩, .slice D1 m1 d1), (⟨Y, 1, none⟩, .slice D2 m2 d2), (⟨Y, 2, none⟩, .slice E1 (m3 + 1) e1), (⟨w.heap.size, 0, none⟩, .slice X1 xg xc1), (⟨w.heap.size, 1, none⟩, .slice X2 xc xc2), (⟨w.heap.size, 2, none⟩, .slice X3 xm xc3)] wu) := Lib.hid ⟨u0, u1, u2, (Lib.cell_of_heap hx0u 0).trans rfl, (Lib.cell_of_heap hx0u 1).trans rfl, (Lib.cell_of_heap hx0u 2).trans rfl, trivial⟩
            have HYU := Lib.hid fun w' (hb : Below wu.heap.size wu w') => HEM.out w' (hbsu.trans (hb.mono hbsu.size))
            have HXU := Lib.hid fun w' (hb : Below wu.heap.size wu w') => HXV.out w' (hbwu.trans (hb.mono hbwu.size))
            have HBWU := Lib.hid (HB0.out.trans (hbwu.mono HB0.out.size))
            obtain ⟨qy, hqy⟩ : ∃ qy, qy = decide (yd.gone.length + yd.come.length + yd.moved.length = 0) := ⟨_, rfl⟩
            obtain ⟨qx, hqx⟩ : ∃ qx, qx = decide (x.gone.length + x.come.length + x.moved.length = 0) := ⟨_, rfl⟩
            have HQY := Lib.hid hqy
            have HQX := Lib.hid hqx
            clear hB hlt hb5u h05 hbwu hx0u hbsu hxy u0 u1 u2 hqy hqx
            go_wp2_with fail
            refine wp_region_mix (AtCells [(⟨Y, 0, none⟩, .slice D1 m1 d1), (⟨Y, 1, none⟩, .slice D2 m2 d2), (⟨Y, 2, none⟩, .slice E1 (m3 + 1) e1), (⟨w.heap.size, 0, none⟩, .slice X1 xg xc1), (⟨w.heap.size, 1, none⟩, .slice X2 xc xc2), (⟨w.heap.size, 2, none⟩, .slice X3 xm xc3)]) [(true, 0), (true, 2), (false, 1), (false, 3), (true, 4), (true, 5), (true, 6), (true, 8), (false, 7), (false, 9), (true, 10), (true, 11), (true, 12), (false, 13), (true, 14)] [15] (by kernel_rfl) (by kernel_rfl) ?szc ?hzc
            case szc => exact HCY.out.below (Below.refl _ wu).drew
            case hzc =>
            simp only [mixAt, List.filterMap_cons, List.filterMap_nil, List.getElem?_toArray, List.getElem?_cons_succ, List.getElem?_cons_zero, Option.map_some]
            refine wpMix_load ?vcna0 rfl (fun w' hS => ?ycna0) ?kcna0
            case ycna0 =>
              obtain ⟨g0, g1, g2, g3, g4, g5, _⟩ := hS
              go_simp
              try rfl
            case kcna0 =>
            go_simp
            refine wpMix_load ?vcnb2 rfl (fun w' hS => ?ycnb2) ?kcnb2
            case ycnb2 =>
              obtain ⟨g0, g1, g2, g3, g4, g5, _⟩ := hS
              go_simp
              try rfl
            case kcnb2 =>
            go_simp
            have hem := empty_any _ yd _ wu.drew (HYU.out wu.drew (Below.refl _ wu).drew) (by rw [← HYN.out.1, ← HYN.out.2.1, ← HYN.out.2.2]; omega)
            rw [← HQY.out] at hem
            refine wpMix_keep rfl ?_
            go_wp2_with fail
            refine hem.mono ?_
            clear hem
            rintro e u7 ⟨rfl, hb7⟩
            have HB7 := Lib.hid (show Below wu.heap.size wu u7 from (Below.refl _ wu).drew.trans hb7)
            have hem := rempty_any _ yd _ u7 (HYU.out u7 HB7.out) (by rw [← HYN.out.1, ← HYN.out.2.1, ← HYN.out.2.2]; omega)
            rw [← HQY.out] at hem
            have HE7 := Lib.hid hem
            have hs7 := HB7.out.size
            clear hb7 hem
            refine ⟨HCY.out.below HB7.out, ?_⟩
            refine wpMix_keep rfl ?_
            go_wp2_with fail
            refine HE7.out.mono ?_
            rintro e u8 ⟨rfl, hb8⟩
            have HB8 := Lib.hid (HB7.out.trans (hb8.mono HB7.out.size))
            clear hb8 HE7 HB7
            refine ⟨HCY.out.below HB8.out, ?_⟩
            go_simp
            refine wpMix_load ?vcnc4 rfl (fun w' hS => ?ycnc4) ?kcnc4
            case ycnc4 =>
              obtain ⟨g0, g1, g2, g3, g4, g5, _⟩ := hS
              go_simp
              try rfl
            case kcnc4 =>
            go_simp
            refine wpMix_load ?vcnc5 rfl (fun w' hS => ?ycnc5) ?kcnc5
            case ycnc5 =>
              obtain ⟨g0, g1, g2, g3, g4, g5, _⟩ := hS
              go_simp
              try rfl
            case kcnc5 =>
            go_simp
            refine wpMix_load ?vcnc6 rfl (fun w' hS => ?ycnc6) ?kcnc6
            case ycnc6 =>
              obtain ⟨g0, g1, g2, g3, g4, g5, _⟩ := hS
              go_simp
              try rfl
            case kcnc6 =>
            go_simp
            refine wpMix_load ?vcnd8 rfl (fun w' hS => ?ycnd8) ?kcnd8
            case ycnd8 =>
              obtain ⟨g0, g1, g2, g3, g4, g5, _⟩ := hS
              go_simp
              try rfl
            case kcnd8 =>
            go_simp
            have hem := empty_any _ x _ u8 (HXU.out u8 HB8.out) (by rw [← HXN.out.1, ← HXN.out.2.1, ← HXN.out.2.2]; omega)
            rw [← HQX.out] at hem
            refine wpMix_keep rfl ?_
            go_wp2_with fail
            refine hem.mono ?_
            clear hem
            rintro e u9 ⟨rfl, hb9⟩
            have HB9 := Lib.hid (HB8.out.trans (hb9.mono HB8.out.size))
            have hem := rempty_any _ x _ u9 (HXU.out u9 HB9.out) (by rw [← HXN.out.1, ← HXN.out.2.1, ← HXN.out.2.2]; omega)
            rw [← HQX.out] at hem
            have HE9 := Lib.hid hem
            clear hb9 hem HB8
            refine ⟨HCY.out.below HB9.out, ?_⟩
            refine wpMix_keep rfl ?_
            go_wp2_with fail
            refine HE9.out.mono ?_
            rintro e u10 ⟨rfl, hb10⟩
            have HB10 := Lib.hid (HB9.out.trans (hb10.mono HB9.out.size))
            clear hb10 HE9 HB9
            refine ⟨HCY.out.below HB10.out, ?_⟩
            go_simp
            refine wpMix_load ?vcne10 rfl (fun w' hS => ?ycne10) ?kcne10
            case ycne10 =>
              obtain ⟨g0, g1, g2, g3, g4, g5, _⟩ := hS
              go_simp
              try rfl
            case kcne10 =>
            go_simp
            refine wpMix_load ?vcne11 rfl (fun w' hS => ?ycne11) ?kcne11
            case ycne11 =>
              obtain ⟨g0, g1, g2, g3, g4, g5, _⟩ := hS
              go_simp
              try rfl
            case kcne11 =>
            go_simp
            refine wpMix_load ?vcne12 rfl (fun w' hS => ?ycne12) ?kcne12
            case ycne12 =>
              obtain ⟨g0, g1, g2, g3, g4, g5, _⟩ := hS
              go_simp
              try rfl
            case kcne12 =>
            go_simp
            have HAW := Lib.hid (awake_any u10)
            refine wpMix_keep rfl ?_
            go_wp2_with fail
            refine HAW.out.mono ?_
            rintro e u11 ⟨rfl, hb11⟩
            have HB11 := Lib.hid (HB10.out.trans (hb11.mono HB10.out.size))
            have HEND := Lib.hid (HBWU.out.trans (HB11.out.mono HBWU.out.size))
            refine ⟨HCY.out.below HB11.out, ?_⟩
            clear hb11 HAW HB10 HB11
            go_simp
            refine wpMix_load ?vcnf14 rfl (fun w' hS => ?ycnf14) ?kcnf14
            case ycnf14 =>
              obtain ⟨g0, g1, g2, g3, g4, g5, _⟩ := hS
              go_simp
              try rfl
            case kcnf14 =>
            go_simp
            refine wpMix_nil ?_
            simp only [opsAt, List.filterMap_cons, List.filterMap_nil, List.getElem?_toArray, List.getElem?_cons_succ, List.getElem?_cons_zero]
            go_wp2
            refine NoPanic.normal ?_
            go_wp2
            go_ret
            exact ⟨rfl, HEND.out⟩
      · have HC : Hid (AtCells [(⟨Y, 1, none⟩, .slice D2 m2 d2)] w7) := Lib.hid ⟨(Lib.cell_of_heap HY7.out 1).trans rfl, trivial⟩
        have HMB := Lib.hid (mod_any by_ 6 w7.drew HBY.out.1 HBY.out.2 (by omega) (by omega))
        go_wp2_with fail
        refine wp_region_mix (AtCells [(⟨Y, 1, none⟩, .slice D2 m2 d2)]) [(true, 0), (true, 1), (true, 2), (false, 3), (true, 4), (false, 5)] [6, 7, 8] (by kernel_rfl) (by kernel_rfl) ?sad ?had
        case sad => exact HC.out.below (Below.refl _ w7).drew
        case had =>
        simp only [mixAt, List.filterMap_cons, List.filterMap_nil, List.getElem?_toArray, List.getElem?_cons_succ, List.getElem?_cons_zero, Option.map_some]
        refine wpMix_load ?vpad0 rfl (fun w' hS => ?ypad0) ?kpad0
        case ypad0 =>
          obtain ⟨g0, _⟩ := hS
          go_simp
          try rfl
        case kpad0 =>
        go_simp
        refine wpMix_load ?vpad1 rfl (fun w' hS => ?ypad1) ?kpad1
        case ypad1 =>
          obtain ⟨g0, _⟩ := hS
          go_simp
          try rfl
        case kpad1 =>
        go_simp
        refine wpMix_load ?vpad2 rfl (fun w' hS => ?ypad2) ?kpad2
        case ypad2 =>
          obtain ⟨g0, _⟩ := hS
          go_simp
          try rfl
        case kpad2 =>
        go_simp
        refine wpMix_keep rfl ?_
        go_wp2_with fail
        refine HMB.out.mono ?_
        rintro e w9 ⟨rfl, rfl⟩
        clear HMB
        refine ⟨HC.out.below (Below.refl _ w7).drew, ?_⟩
        go_simp
        refine wpMix_load ?vpbd4 rfl (fun w' hS => ?ypbd4) ?kpbd4
        case ypbd4 =>
          obtain ⟨g0, _⟩ := hS
          go_simp
          try rfl
        case kpbd4 =>
        go_simp
        refine wpMix_keep rfl ?_
        go_simp
        obtain ⟨w9, hw9⟩ : ∃ w9, w9 = (w7.alloc (.cells #[.int .i64 (by_ % 6), .int .i64 2, .string ⟨#[]⟩] 40)).drew := ⟨_, rfl⟩
        have hb9 : Below w7.heap.size w7 w9 := by rw [hw9]; exact ((Below.refl _ _).alloc (Nat.le_refl _) _).drew
        have hx9 : w9.heap[w7.heap.size]? = some (.cells #[.int .i64 (by_ % 6), .int .i64 2, .string ⟨#[]⟩] 40 (0, 0)) := by rw [hw9]; exact alloc1 w7 _
        rw [← hw9]
        refine ⟨HC.out.below hb9, ?_⟩
        refine wpMix_nil ?_
        have hk9 := Kp.ofBelow (M := fun _ => False) hb9
        have h1 := hk9.own HD1.out fun _ _ e => e
        have h2 := hk9.own HD2.out fun _ _ e => e
        have h3 := hk9.own HD3.out fun _ _ e => e
        have hY9 := (hb9.block _ (lt_of_heap HY7.out)).trans HY7.out
        have hrow : Row w9 (fun y => y = w7.heap.size) (some ⟨w7.heap.size, 0, none⟩) (msC (by_ % 6, 2, [])) := row_heap hx9 rfl rfl
        have hs9 := hb9.size
        clear HC hw9 hx9
        simp only [opsAt, List.filterMap_cons, List.filterMap_nil, List.getElem?_toArray, List.getElem?_cons_succ, List.getElem?_cons_zero]
        refine (wpList_append_row rfl _ _ 22 rfl wx.heap.size 40 i0 _ 3 32 Try.underlying22 hi hz0 hz1 hz2 rfl (by omega) (.slice D2 m2 d2) m2 (flt msC od.come) rfl h2 (fun y => y = w7.heap.size) (some ⟨w7.heap.size, 0, none⟩) 1 1 (msC (by_ % 6, 2, [])) rfl rfl hrow (msC_one _) (by unfold maxLen; omega) (by omega) (by omega) ?_)
        intro v' w10 hown hg hat
        obtain ⟨E1, e1, rfl, _⟩ := own_slice hown
        have hk10 : Kp (fun y => (Value.slice D2 m2 d2).ownBlock = some y) w9 w10 := (Kp.refl _ _).grown hg fun q hq _ => hq
        have hs10 := hk10.size
        have hYlt : w7.heap.size = Y + 1 := by rw [HYE.out]; exact HS7.out
        have hY10 := hk10.heap hY9 fun e => by have := (HLT.out.2.1 _ e).2; have := HYE.out; omega
        have hf10 : w10.frozen? ⟨Y, 1, none⟩ = false := Lib.frozen_of_heap hY10 1
        have hc10 : w10.cell? ⟨Y, 1, none⟩ = some (.slice D2 m2 d2) := (Lib.cell_of_heap hY10 1).trans rfl
        obtain ⟨ws, hws⟩ : ∃ ws, ws = w10.setCell ⟨Y, 1, none⟩ (.slice E1 (m2 + 1) e1) := ⟨_, rfl⟩
        have hks : Kp (fun y => y = Y) w10 ws := by rw [hws]; exact Kp.setCell (M := fun y => y = Y) (Kp.refl _ _) (fun _ => rfl) _
        have hYs : ws.heap[Y]? = some (.cells (#[.slice D1 m1 d1, .slice E1 (m2 + 1) e1, .slice D3 m3 d3]) 25 (0, 0)) := by rw [hws]; exact setCell_heap (w := w10) hY10
        have hnY : ∀ g, (Value.slice E1 (m2 + 1) e1).ownBlock = some g → ¬ g = Y := fun g hg e => by
          rcases hat with h | h
          · rw [h] at hg
            have := (HLT.out.2.1 _ hg).2
            have := HYE.out
            omega
          · rw [h] at hg
            have : w9.heap.size = g := Option.some.inj hg
            omega
        have hb10 : Below w5.heap.size w5 w10 := kp_below (HB57.out.trans (hb9.mono HB57.out.size)) hk10 fun y e => by have := (HLT.out.2.1 _ e).1; omega
        have HB5S := Lib.hid (kp_below hb10 hks fun y e => by have := HYE.out; omega)
        obtain ⟨yd, hyd⟩ : ∃ yd : Dl, yd = (⟨od.gone, od.come ++ [(by_ % 6, 2, [])], od.moved⟩) := ⟨_, rfl⟩
        have HYL : Hid (yd.gone.length ≤ 100 ∧ yd.come.length ≤ 100 ∧ yd.moved.length ≤ 100) := Lib.hid (by rw [hyd]; simp only [List.length_append, List.length_cons, List.length_nil, ← HMM.out.1, ← HMM.out.2.1, ← HMM.out.2.2]; omega)
        have ho1 := hks.own hown fun g hg => hnY g hg
        have ho2 := hks.own (hk10.own h1 (fun g hg e => (HNE.out.1 g hg).1 e)) fun g hg e => by have := (HLT.out.1 g hg).2; have := HYE.out; omega
        have ho3 := hks.own (hk10.own h3 (fun g hg e => HNE.out.2 g e hg)) fun g hg e => by have := (HLT.out.2.2 g hg).2; have := HYE.out; omega
        have HDY : Hid (DlV ws (Lt ws.heap.size) (.agg (#[.slice D1 m1 d1, .slice E1 (m2 + 1) e1, .slice D3 m3 d3])) yd) := Lib.hid (by
          rw [hyd]
          exact dl_own (b1 := wx.heap.size) (b2 := wx.heap.size) (b3 := wx.heap.size) ((by rw [← HMM.out.1]; exact ho2)) ((by rw [List.length_append, flt_append, flt_one, ← HMM.out.2.1]; exact ho1)) ((by rw [← HMM.out.2.2]; exact ho3)))
        have HY := Lib.hid hYs
        have HWS := Lib.hid hws
        clear hb9 hk9 h1 h2 h3 hY9 hrow hown hg hat hk10 hY10 hws hks hYs hnY hb10 hyd ho1 ho2 ho3 hYlt
        go_wp2
        rw [← HWS.out]
        refine NoPanic.normal ?_
        clear hf10 hc10
        go_wp2_with fail
        -- the difference yd lies in the box at Y (world ws): HY HDY HYL HB5S
        obtain ⟨n1, hn1⟩ : ∃ n1, n1 = yd.gone.length := ⟨_, rfl⟩
        obtain ⟨n2, hn2⟩ : ∃ n2, n2 = yd.come.length := ⟨_, rfl⟩
        obtain ⟨n3, hn3⟩ : ∃ n3, n3 = yd.moved.length := ⟨_, rfl⟩
        have hyl := HYL.out
        rw [← hn1, ← hn2, ← hn3] at hyl
        obtain ⟨hyl1, hyl2, hyl3⟩ := hyl
        have hyc : D1 = D1 ∧ m1 = n1 ∧ (m2 + 1) = n2 ∧ m3 = n3 := by
          obtain ⟨a1, a2, a3, z1, z2, z3, he, _⟩ := HDY.out
          have he : (D1 = a1 ∧ m1 = yd.gone.length ∧ d1 = z1) ∧ (E1 = a2 ∧ (m2 + 1) = yd.come.length ∧ e1 = z2) ∧ (D3 = a3 ∧ m3 = yd.moved.length ∧ d3 = z3) := by simpa using he
          exact ⟨rfl, he.1.2.1.trans hn1.symm, he.2.1.2.1.trans hn2.symm, he.2.2.2.1.trans hn3.symm⟩
        have HYN := Lib.hid (And.intro hn1 (And.intro hn2 hn3))
        obtain ⟨_, rfl, rfl, rfl⟩ := hyc
        have HEM : Hid (∀ w', Below ws.heap.size ws w' → DlV w' (Lt w'.heap.size) (.agg #[.slice D1 m1 d1, .slice E1 (m2 + 1) e1, .slice D3 m3 d3]) yd) := Lib.hid fun w' hb => HDY.out.below hb
        obtain ⟨wt, hwt⟩ : ∃ wt, wt = ws.alloc (.cells #[.slice OA n oc, .slice RA r rc] 22) := ⟨_, rfl⟩
        have hbt : Below ws.heap.size ws wt := by rw [hwt]; exact (Below.refl _ _).alloc (Nat.le_refl _) _
        have hxt : wt.heap[ws.heap.size]? = some (.cells #[.slice OA n oc, .slice RA r rc] 22 (0, 0)) := by rw [hwt]; exact alloc1 _ _
        have hb5t := HB5S.out.trans (hbt.mono HB5S.out.size)
        have HB5T := Lib.hid hb5t
        have HBT := Lib.hid hbt
        have HLS : Hid (∀ (k : Nat) (w' : World), k < 2 → Below wt.heap.size wt w' → ∃ (v : Value) (L : List Msg), w'.cell? ⟨ws.heap.size, k, none⟩ = some v ∧ SlM w' v L ∧ L.length ≤ 40) := Lib.hid fun k w' hk hb => by
          have hx := (hb.block _ (lt_of_heap hxt)).trans hxt
          have h1 := HNL.out
          have h2 := HRL.out
          have hb5 := hb5t.trans (hb.mono hb5t.size)
          obtain rfl | rfl : k = 0 ∨ k = 1 := by omega
          · exact ⟨_, old, (Lib.cell_of_heap hx _).trans rfl, HO5.out.below hb5, by omega⟩
          · exact ⟨_, raw, (Lib.cell_of_heap hx _).trans rfl, HR5.out.below hb5, h2.1⟩
        have HWT := Lib.hid hwt
        have hyw := lt_of_heap HY.out
        clear hn1 hn2 hn3 hwt hbt hxt hb5t
        go_wp2_with fail
        skip
        rw [← HWT.out]
        go_loopw [150] (fun i wr => ∃ k : Nat, k ≤ 2 ∧ i = .int .i64 k ∧ Below wt.heap.size wt wr) (fun i _ => 2 - (intOf i).toNat)
        case atStart => exact ⟨0, by omega, rfl, Below.refl _ _⟩
        case round =>
          obtain ⟨k, hk2, rfl, hB⟩ := hrel
          obtain ⟨wu, hwu⟩ : ∃ wu, wu = wr := ⟨_, rfl⟩
          rw [← hwu] at hB ⊢
          clear hwu
          have hbsu := HBT.out.trans (hB.mono HBT.out.size)
          have hxy := (hbsu.block _ (lt_of_heap HY.out)).trans HY.out
          have u0 : wu.cell? ⟨Y, 0, none⟩ = some (.slice D1 m1 d1) := (Lib.cell_of_heap hxy 0).trans rfl
          have u1 : wu.cell? ⟨Y, 1, none⟩ = some (.slice E1 (m2 + 1) e1) := (Lib.cell_of_heap hxy 1).trans rfl
          have u2 : wu.cell? ⟨Y, 2, none⟩ = some (.slice D3 m3 d3) := (Lib.cell_of_heap hxy 2).trans rfl
          by_cases hlt : k < 2
          · obtain ⟨v, L, p0, hS, hl⟩ := HLS.out k wu hlt hB
            obtain ⟨LA, lc, rfl, hln, _, hlr⟩ := hS
            have hik : (0 : Int) ≤ (k : Int) ∧ (k : Int) < 2 := ⟨by omega, by omega⟩
            have hap := apply_any L yd _ LA lc wu (by omega) hln hlr (HEM.out wu hbsu) (by rw [← HYN.out.1, ← HYN.out.2.1, ← HYN.out.2.2]; omega)
            have HRP : Hid (∀ w', Below wu.heap.size wu w' → Calls Try.prog 19 #[.slice LA L.length lc, .agg #[.slice D1 m1 d1, .slice E1 (m2 + 1) e1, .slice D3 m3 d3]] w' (ApRes (applyM L yd) w')) := Lib.hid fun w' hb => rapply_any L yd _ LA lc w' (by omega) (hlr.below hb) (HEM.out w' (hbsu.trans (hb.mono hbsu.size))) (by rw [← HYN.out.1, ← HYN.out.2.1, ← HYN.out.2.2]; omega)
            have hyu := lt_of_heap hxy
            have HXY := Lib.hid hxy
            have HAP := Lib.hid hap
            obtain ⟨l, hl'⟩ : ∃ l, l = L.length := ⟨_, rfl⟩
            rw [← hl'] at hl HAP HRP p0
            have HLX := Lib.hid hl'
            have HB := Lib.hid hB
            clear hln hlr hap hl' hB hbsu hxy
            go_wp2_with fail
            clear p0 u0 u1 u2
            refine HAP.out.mono ?_
            rintro e w7 hap
            have hlen := fun l => apply_len (L := L) (d := yd) (l := l)
            rw [← HYN.out.2.1, ← HYN.out.2.2, ← HLX.out] at hlen
            obtain ⟨o, ho⟩ : ∃ o, o = applyM L yd := ⟨_, rfl⟩
            rw [← ho] at hap HRP hlen
            have HLEN := Lib.hid hlen
            clear ho HAP hlen
            obtain ⟨v7, l7, rfl, rfl, hown7, hb7⟩ | ⟨rfl, rfl, hb7⟩ := hap
            · have hxy7 := (hb7.block _ (lt_of_heap HXY.out)).trans HXY.out
              have u0 : w7.cell? ⟨Y, 0, none⟩ = some (.slice D1 m1 d1) := (Lib.cell_of_heap hxy7 0).trans rfl
              have u1 : w7.cell? ⟨Y, 1, none⟩ = some (.slice E1 (m2 + 1) e1) := (Lib.cell_of_heap hxy7 1).trans rfl
              have u2 : w7.cell? ⟨Y, 2, none⟩ = some (.slice D3 m3 d3) := (Lib.cell_of_heap hxy7 2).trans rfl
              obtain ⟨UA, uc, rfl, _⟩ := own_slice hown7
              have HO7 := Lib.hid hown7
              have HRP7 := Lib.hid (HRP.out w7 hb7)
              have HB7 := Lib.hid (HB.out.trans (hb7.mono HB.out.size))
              obtain ⟨j7, hj7⟩ : ∃ j, j = l7.length := ⟨_, rfl⟩
              rw [← hj7]
              have HJ7 := Lib.hid hj7
              have hbnd : l7.length ≤ 1000000 := by
                have := HLEN.out l7 rfl
                omega
              rw [← hj7] at hbnd
              clear hown7 hb7 hxy7 hj7 HRP HB
              go_wp2_with fail
              clear u0 u1 u2
              refine HRP7.out.mono ?_
              rintro e w8 hap
              obtain ⟨v8, l8, e8, rfl, hown8, hb8⟩ | ⟨e8, _⟩ := hap
              rotate_left
              · cases e8
              obtain rfl : l7 = l8 := Option.some.inj e8
              obtain ⟨TA, tc, rfl, _⟩ := own_slice hown8
              have hsl := sameList_any l7 l7 UA TA uc tc w8 (by rw [← HJ7.out]; exact hbnd) (Row.ofOwn ((Kp.ofBelow (M := fun _ => False) hb8).own HO7.out fun _ _ e => e) fun _ _ _ h => h) (Row.ofOwn hown8 fun _ _ _ h => h)
              rw [← HJ7.out] at hsl ⊢
              have HSL := Lib.hid hsl
              have HB8 := Lib.hid (HB7.out.trans (hb8.mono HB7.out.size))
              clear hown8 hb8 hsl HRP7 HO7 HB7
              go_wp2_with fail
              refine HSL.out.mono ?_
              rintro e w9 ⟨r9, rfl, hr9, hb9⟩
              obtain rfl : r9 = true := by simpa using hr9
              have HB9 := Lib.hid (HB8.out.trans (hb9.mono HB8.out.size))
              clear hr9 hb9 HSL HB8
              go_wp2_with fail
              first | go_roundw | refine ⟨?rel, ?measure⟩
              case rel => exact ⟨k + 1, by omega, by go_num, HB9.out⟩
              case measure => simp [intOf]; omega
            · have hxy7 := (hb7.block _ (lt_of_heap HXY.out)).trans HXY.out
              have u0 : w7.cell? ⟨Y, 0, none⟩ = some (.slice D1 m1 d1) := (Lib.cell_of_heap hxy7 0).trans rfl
              have u1 : w7.cell? ⟨Y, 1, none⟩ = some (.slice E1 (m2 + 1) e1) := (Lib.cell_of_heap hxy7 1).trans rfl
              have u2 : w7.cell? ⟨Y, 2, none⟩ = some (.slice D3 m3 d3) := (Lib.cell_of_heap hxy7 2).trans rfl
              have HRP7 := Lib.hid (HRP.out w7 hb7)
              have HB7 := Lib.hid (HB.out.trans (hb7.mono HB.out.size))
              clear hb7 hxy7 HRP HB
              go_wp2_with fail
              clear u0 u1 u2
              refine HRP7.out.mono ?_
              rintro e w8 hap
              obtain ⟨v8, l8, e8, _⟩ | ⟨_, rfl, hb8⟩ := hap
              · cases e8
              have hsl := sameList_any [] [] none none 0 0 w8 (by simp) (Row.nil _ _ _) (Row.nil _ _ _)
              have HSL := Lib.hid hsl
              have HB8 := Lib.hid (HB7.out.trans (hb8.mono HB7.out.size))
              clear hb8 hsl HRP7 HB7
              go_wp2_with fail
              refine HSL.out.mono ?_
              rintro e w9 ⟨r9, rfl, hr9, hb9⟩
              obtain rfl : r9 = true := by simpa using hr9
              have HB9 := Lib.hid (HB8.out.trans (hb9.mono HB8.out.size))
              clear hr9 hb9 HSL HB8
              go_wp2_with fail
              first | go_roundw | refine ⟨?rel, ?measure⟩
              case rel => exact ⟨k + 1, by omega, by go_num, HB9.out⟩
              case measure => simp [intOf]; omega
          · have hq0 : decide ((k : Int) < 2) = false := by simp; omega
            have hb5u := HB5T.out.trans (hB.mono HB5T.out.size)
            have h05 := HB5.out
            have hbwu := h05.trans (hb5u.mono h05.size)
            have hx0u := (hbwu.block _ (lt_of_heap HX0.out)).trans HX0.out
            have HCY : Hid (AtCells [(⟨Y, 0, none⟩, .slice D1 m1 d1), (⟨Y, 1, none⟩, .slice E1 (m2 + 1) e1), (⟨Y, 2, none⟩, .slice D3 m3 d3), (⟨w.heap.size, 0, none⟩, .slice X1 xg xc1), (⟨w.heap.size, 1, none⟩, .slice X2 xc xc2), (⟨w.heap.size, 2, none⟩, .slice X3 xm xc3)] wu) := Lib.hid ⟨u0, u1, u2, (Lib.cell_of_heap hx0u 0).trans rfl, (Lib.cell_of_heap hx0u 1).trans rfl, (Lib.cell_of_heap hx0u 2).trans rfl, trivial⟩
            have HYU := Lib.hid fun w' (hb : Below wu.heap.size wu w') => HEM.out w' (hbsu.trans (hb.mono hbsu.size))
            have HXU := Lib.hid fun w' (hb : Below wu.heap.size wu w') => HXV.out w' (hbwu.trans (hb.mono hbwu.size))
            have HBWU := Lib.hid (HB0.out.trans (hbwu.mono HB0.out.size))
            obtain ⟨qy, hqy⟩ : ∃ qy, qy = decide (yd.gone.length + yd.come.length + yd.moved.length = 0) := ⟨_, rfl⟩
            obtain ⟨qx, hqx⟩ : ∃ qx, qx = decide (x.gone.length + x.come.length + x.moved.length = 0) := ⟨_, rfl⟩
            have HQY := Lib.hid hqy
            have HQX := Lib.hid hqx
            clear hB hlt hb5u h05 hbwu hx0u hbsu hxy u0 u1 u2 hqy hqx
            go_wp2_with fail
            refine wp_region_mix (AtCells [(⟨Y, 0, none⟩, .slice D1 m1 d1), (⟨Y, 1, none⟩, .slice E1 (m2 + 1) e1), (⟨Y, 2, none⟩, .slice D3 m3 d3), (⟨w.heap.size, 0, none⟩, .slice X1 xg xc1), (⟨w.heap.size, 1, none⟩, .slice X2 xc xc2), (⟨w.heap.size, 2, none⟩, .slice X3 xm xc3)]) [(true, 0), (true, 2), (false, 1), (false, 3), (true, 4), (true, 5), (true, 6), (true, 8), (false, 7), (false, 9), (true, 10), (true, 11), (true, 12), (false, 13), (true, 14)] [15] (by kernel_rfl) (by kernel_rfl) ?szd ?hzd
            case szd => exact HCY.out.below (Below.refl _ wu).drew
            case hzd =>
            simp only [mixAt, List.filterMap_cons, List.filterMap_nil, List.getElem?_toArray, List.getElem?_cons_succ, List.getElem?_cons_zero, Option.map_some]
            refine wpMix_load ?vdna0 rfl (fun w' hS => ?ydna0) ?kdna0
            case ydna0 =>
              obtain ⟨g0, g1, g2, g3, g4, g5, _⟩ := hS
              go_simp
              try rfl
            case kdna0 =>
            go_simp
            refine wpMix_load ?vdnb2 rfl (fun w' hS => ?ydnb2) ?kdnb2
            case ydnb2 =>
              obtain ⟨g0, g1, g2, g3, g4, g5, _⟩ := hS
              go_simp
              try rfl
            case kdnb2 =>
            go_simp
            have hem := empty_any _ yd _ wu.drew (HYU.out wu.drew (Below.refl _ wu).drew) (by rw [← HYN.out.1, ← HYN.out.2.1, ← HYN.out.2.2]; omega)
            rw [← HQY.out] at hem
            refine wpMix_keep rfl ?_
            go_wp2_with fail
            refine hem.mono ?_
            clear hem
            rintro e u7 ⟨rfl, hb7⟩
            have HB7 := Lib.hid (show Below wu.heap.size wu u7 from (Below.refl _ wu).drew.trans hb7)
            have hem := rempty_any _ yd _ u7 (HYU.out u7 HB7.out) (by rw [← HYN.out.1, ← HYN.out.2.1, ← HYN.out.2.2]; omega)
            rw [← HQY.out] at hem
            have HE7 := Lib.hid hem
            have hs7 := HB7.out.size
            clear hb7 hem
            refine ⟨HCY.out.below HB7.out, ?_⟩
            refine wpMix_keep rfl ?_
            go_wp2_with fail
            refine HE7.out.mono ?_
            rintro e u8 ⟨rfl, hb8⟩
            have HB8 := Lib.hid (HB7.out.trans (hb8.mono HB7.out.size))
            clear hb8 HE7 HB7
            refine ⟨HCY.out.below HB8.out, ?_⟩
            go_simp
            refine wpMix_load ?vdnc4 rfl (fun w' hS => ?ydnc4) ?kdnc4
            case ydnc4 =>
              obtain ⟨g0, g1, g2, g3, g4, g5, _⟩ := hS
              go_simp
              try rfl
            case kdnc4 =>
            go_simp
            refine wpMix_load ?vdnc5 rfl (fun w' hS => ?ydnc5) ?kdnc5
            case ydnc5 =>
              obtain ⟨g0, g1, g2, g3, g4, g5, _⟩ := hS
              go_simp
              try rfl
            case kdnc5 =>
            go_simp
            refine wpMix_load ?vdnc6 rfl (fun w' hS => ?ydnc6) ?kdnc6
            case ydnc6 =>
              obtain ⟨g0, g1, g2, g3, g4, g5, _⟩ := hS
              go_simp
              try rfl
            case kdnc6 =>
            go_simp
            refine wpMix_load ?vdnd8 rfl (fun w' hS => ?ydnd8) ?kdnd8
            case ydnd8 =>
              obtain ⟨g0, g1, g2, g3, g4, g5, _⟩ := hS
              go_simp
              try rfl
            case kdnd8 =>
            go_simp
            have hem := empty_any _ x _ u8 (HXU.out u8 HB8.out) (by rw [← HXN.out.1, ← HXN.out.2.1, ← HXN.out.2.2]; omega)
            rw [← HQX.out] at hem
            refine wpMix_keep rfl ?_
            go_wp2_with fail
            refine hem.mono ?_
            clear hem
            rintro e u9 ⟨rfl, hb9⟩
            have HB9 := Lib.hid (HB8.out.trans (hb9.mono HB8.out.size))
            have hem := rempty_any _ x _ u9 (HXU.out u9 HB9.out) (by rw [← HXN.out.1, ← HXN.out.2.1, ← HXN.out.2.2]; omega)
            rw [← HQX.out] at hem
            have HE9 := Lib.hid hem
            clear hb9 hem HB8
            refine ⟨HCY.out.below HB9.out, ?_⟩
            refine wpMix_keep rfl ?_
            go_wp2_with fail
            refine HE9.out.mono ?_
            rintro e u10 ⟨rfl, hb10⟩
            have HB10 := Lib.hid (HB9.out.trans (hb10.mono HB9.out.size))
            clear hb10 HE9 HB9
            refine ⟨HCY.out.below HB10.out, ?_⟩
            go_simp
            refine wpMix_load ?vdne10 rfl (fun w' hS => ?ydne10) ?kdne10
            case ydne10 =>
              obtain ⟨g0, g1, g2, g3, g4, g5, _⟩ := hS
              go_simp
              try rfl
            case kdne10 =>
            go_simp
            refine wpMix_load ?vdne11 rfl (fun w' hS => ?ydne11) ?kdne11
            case ydne11 =>
              obtain ⟨g0, g1, g2, g3, g4, g5, _⟩ := hS
              go_simp
              try rfl
            case kdne11 =>
            go_simp
            refine wpMix_load ?vdne12 rfl (fun w' hS => ?ydne12) ?kdne12
            case ydne12 =>
              obtain ⟨g0, g1, g2, g3, g4, g5, _⟩ := hS
              go_simp
              try rfl
            case kdne12 =>
            go_simp
            have HAW := Lib.hid (awake_any u10)
            refine wpMix_keep rfl ?_
            go_wp2_with fail
            refine HAW.out.mono ?_
            rintro e u11 ⟨rfl, hb11⟩
            have HB11 := Lib.hid (HB10.out.trans (hb11.mono HB10.out.size))
            have HEND := Lib.hid (HBWU.out.trans (HB11.out.mono HBWU.out.size))
            refine ⟨HCY.out.below HB11.out, ?_⟩
            clear hb11 HAW HB10 HB11
            go_simp
            refine wpMix_load ?vdnf14 rfl (fun w' hS => ?ydnf14) ?kdnf14
            case ydnf14 =>
              obtain ⟨g0, g1, g2, g3, g4, g5, _⟩ := hS
              go_simp
              try rfl
            case kdnf14 =>
            go_simp
            refine wpMix_nil ?_
            simp only [opsAt, List.filterMap_cons, List.filterMap_nil, List.getElem?_toArray, List.getElem?_cons_succ, List.getElem?_cons_zero]
            go_wp2
            refine NoPanic.normal ?_
            go_wp2
            go_ret
            exact ⟨rfl, HEND.out⟩
      · have HY := HY7
        have HDY : Hid (DlV w7 (Lt w7.heap.size) (.agg #[.slice D1 m1 d1, .slice D2 m2 d2, .slice D3 m3 d3]) od) := Lib.hid (dl_own (by rw [← HMM.out.1]; exact HD1.out) (by rw [← HMM.out.2.1]; exact HD2.out) (by rw [← HMM.out.2.2]; exact HD3.out))
        have HYL : Hid (od.gone.length ≤ 100 ∧ od.come.length ≤ 100 ∧ od.moved.length ≤ 100) := Lib.hid (by rw [← HMM.out.1, ← HMM.out.2.1, ← HMM.out.2.2]; omega)
        have HB5S := HB57
        go_wp2_with fail
        -- the difference od lies in the box at Y (world w7): HY HDY HYL HB5S
        obtain ⟨n1, hn1⟩ : ∃ n1, n1 = od.gone.length := ⟨_, rfl⟩
        obtain ⟨n2, hn2⟩ : ∃ n2, n2 = od.come.length := ⟨_, rfl⟩
        obtain ⟨n3, hn3⟩ : ∃ n3, n3 = od.moved.length := ⟨_, rfl⟩
        have hyl := HYL.out
        rw [← hn1, ← hn2, ← hn3] at hyl
        obtain ⟨hyl1, hyl2, hyl3⟩ := hyl
        have hyc : D1 = D1 ∧ m1 = n1 ∧ m2 = n2 ∧ m3 = n3 := by
          obtain ⟨a1, a2, a3, z1, z2, z3, he, _⟩ := HDY.out
          have he : (D1 = a1 ∧ m1 = od.gone.length ∧ d1 = z1) ∧ (D2 = a2 ∧ m2 = od.come.length ∧ d2 = z2) ∧ (D3 = a3 ∧ m3 = od.moved.length ∧ d3 = z3) := by simpa using he
          exact ⟨rfl, he.1.2.1.trans hn1.symm, he.2.1.2.1.trans hn2.symm, he.2.2.2.1.trans hn3.symm⟩
        have HYN := Lib.hid (And.intro hn1 (And.intro hn2 hn3))
        obtain ⟨_, rfl, rfl, rfl⟩ := hyc
        have HEM : Hid (∀ w', Below w7.heap.size w7 w' → DlV w' (Lt w'.heap.size) (.agg #[.slice D1 m1 d1, .slice D2 m2 d2, .slice D3 m3 d3]) od) := Lib.hid fun w' hb => HDY.out.below hb
        obtain ⟨wt, hwt⟩ : ∃ wt, wt = w7.alloc (.cells #[.slice OA n oc, .slice RA r rc] 22) := ⟨_, rfl⟩
        have hbt : Below w7.heap.size w7 wt := by rw [hwt]; exact (Below.refl _ _).alloc (Nat.le_refl _) _
        have hxt : wt.heap[w7.heap.size]? = some (.cells #[.slice OA n oc, .slice RA r rc] 22 (0, 0)) := by rw [hwt]; exact alloc1 _ _
        have hb5t := HB5S.out.trans (hbt.mono HB5S.out.size)
        have HB5T := Lib.hid hb5t
        have HBT := Lib.hid hbt
        have HLS : Hid (∀ (k : Nat) (w' : World), k < 2 → Below wt.heap.size wt w' → ∃ (v : Value) (L : List Msg), w'.cell? ⟨w7.heap.size, k, none⟩ = some v ∧ SlM w' v L ∧ L.length ≤ 40) := Lib.hid fun k w' hk hb => by
          have hx := (hb.block _ (lt_of_heap hxt)).trans hxt
          have h1 := HNL.out
          have h2 := HRL.out
          have hb5 := hb5t.trans (hb.mono hb5t.size)
          obtain rfl | rfl : k = 0 ∨ k = 1 := by omega
          · exact ⟨_, old, (Lib.cell_of_heap hx _).trans rfl, HO5.out.below hb5, by omega⟩
          · exact ⟨_, raw, (Lib.cell_of_heap hx _).trans rfl, HR5.out.below hb5, h2.1⟩
        have HWT := Lib.hid hwt
        have hyw := lt_of_heap HY.out
        clear hn1 hn2 hn3 hwt hbt hxt hb5t
        go_wp2_with fail
        skip
        rw [← HWT.out]
        go_loopw [150] (fun i wr => ∃ k : Nat, k ≤ 2 ∧ i = .int .i64 k ∧ Below wt.heap.size wt wr) (fun i _ => 2 - (intOf i).toNat)
        case atStart => exact ⟨0, by omega, rfl, Below.refl _ _⟩
        case round =>
          obtain ⟨k, hk2, rfl, hB⟩ := hrel
          obtain ⟨wu, hwu⟩ : ∃ wu, wu = wr := ⟨_, rfl⟩
          rw [← hwu] at hB ⊢
          clear hwu
          have hbsu := HBT.out.trans (hB.mono HBT.out.size)
          have hxy := (hbsu.block _ (lt_of_heap HY.out)).trans HY.out
          have u0 : wu.cell? ⟨Y, 0, none⟩ = some (.slice D1 m1 d1) := (Lib.cell_of_heap hxy 0).trans rfl
          have u1 : wu.cell? ⟨Y, 1, none⟩ = some (.slice D2 m2 d2) := (Lib.cell_of_heap hxy 1).trans rfl
          have u2 : wu.cell? ⟨Y, 2, none⟩ = some (.slice D3 m3 d3) := (Lib.cell_of_heap hxy 2).trans rfl
          by_cases hlt : k < 2
          · obtain ⟨v, L, p0, hS, hl⟩ := HLS.out k wu hlt hB
            obtain ⟨LA, lc, rfl, hln, _, hlr⟩ := hS
            have hik : (0 : Int) ≤ (k : Int) ∧ (k : Int) < 2 := ⟨by omega, by omega⟩
            have hap := apply_any L od _ LA lc wu (by omega) hln hlr (HEM.out wu hbsu) (by rw [← HYN.out.1, ← HYN.out.2.1, ← HYN.out.2.2]; omega)
            have HRP : Hid (∀ w', Below wu.heap.size wu w' → Calls Try.prog 19 #[.slice LA L.length lc, .agg #[.slice D1 m1 d1, .slice D2 m2 d2, .slice D3 m3 d3]] w' (ApRes (applyM L od) w')) := Lib.hid fun w' hb => rapply_any L od _ LA lc w' (by omega) (hlr.below hb) (HEM.out w' (hbsu.trans (hb.mono hbsu.size))) (by rw [← HYN.out.1, ← HYN.out.2.1, ← HYN.out.2.2]; omega)
            have hyu := lt_of_heap hxy
            have HXY := Lib.hid hxy
            have HAP := Lib.hid hap
            obtain ⟨l, hl'⟩ : ∃ l, l = L.length := ⟨_, rfl⟩
            rw [← hl'] at hl HAP HRP p0
            have HLX := Lib.hid hl'
            have HB := Lib.hid hB
            clear hln hlr hap hl' hB hbsu hxy
            go_wp2_with fail
            clear p0 u0 u1 u2
            refine HAP.out.mono ?_
            rintro e w7 hap
            have hlen := fun l => apply_len (L := L) (d := od) (l := l)
            rw [← HYN.out.2.1, ← HYN.out.2.2, ← HLX.out] at hlen
            obtain ⟨o, ho⟩ : ∃ o, o = applyM L od := ⟨_, rfl⟩
            rw [← ho] at hap HRP hlen
            have HLEN := Lib.hid hlen
            clear ho HAP hlen
            obtain ⟨v7, l7, rfl, rfl, hown7, hb7⟩ | ⟨rfl, rfl, hb7⟩ := hap
            · have hxy7 := (hb7.block _ (lt_of_heap HXY.out)).trans HXY.out
              have u0 : w7.cell? ⟨Y, 0, none⟩ = some (.slice D1 m1 d1) := (Lib.cell_of_heap hxy7 0).trans rfl
              have u1 : w7.cell? ⟨Y, 1, none⟩ = some (.slice D2 m2 d2) := (Lib.cell_of_heap hxy7 1).trans rfl
              have u2 : w7.cell? ⟨Y, 2, none⟩ = some (.slice D3 m3 d3) := (Lib.cell_of_heap hxy7 2).trans rfl
              obtain ⟨UA, uc, rfl, _⟩ := own_slice hown7
              have HO7 := Lib.hid hown7
              have HRP7 := Lib.hid (HRP.out w7 hb7)
              have HB7 := Lib.hid (HB.out.trans (hb7.mono HB.out.size))
              obtain ⟨j7, hj7⟩ : ∃ j, j = l7.length := ⟨_, rfl⟩
              rw [← hj7]
              have HJ7 := Lib.hid hj7
              have hbnd : l7.length ≤ 1000000 := by
                have := HLEN.out l7 rfl
                omega
              rw [← hj7] at hbnd
              clear hown7 hb7 hxy7 hj7 HRP HB
              go_wp2_with fail
              clear u0 u1 u2
              refine HRP7.out.mono ?_
              rintro e w8 hap
              obtain ⟨v8, l8, e8, rfl, hown8, hb8⟩ | ⟨e8, _⟩ := hap
              rotate_left
              · cases e8
              obtain rfl : l7 = l8 := Option.some.inj e8
              obtain ⟨TA, tc, rfl, _⟩ := own_slice hown8
              have hsl := sameList_any l7 l7 UA TA uc tc w8 (by rw [← HJ7.out]; exact hbnd) (Row.ofOwn ((Kp.ofBelow (M := fun _ => False) hb8).own HO7.out fun _ _ e => e) fun _ _ _ h => h) (Row.ofOwn hown8 fun _ _ _ h => h)
              rw [← HJ7.out] at hsl ⊢
              have HSL := Lib.hid hsl
              have HB8 := Lib.hid (HB7.out.trans (hb8.mono HB7.out.size))
              clear hown8 hb8 hsl HRP7 HO7 HB7
              go_wp2_with fail
              refine HSL.out.mono ?_
              rintro e w9 ⟨r9, rfl, hr9, hb9⟩
              obtain rfl : r9 = true := by simpa using hr9
              have HB9 := Lib.hid (HB8.out.trans (hb9.mono HB8.out.size))
              clear hr9 hb9 HSL HB8
              go_wp2_with fail
              first | go_roundw | refine ⟨?rel, ?measure⟩
              case rel => exact ⟨k + 1, by omega, by go_num, HB9.out⟩
              case measure => simp [intOf]; omega
            · have hxy7 := (hb7.block _ (lt_of_heap HXY.out)).trans HXY.out
              have u0 : w7.cell? ⟨Y, 0, none⟩ = some (.slice D1 m1 d1) := (Lib.cell_of_heap hxy7 0).trans rfl
              have u1 : w7.cell? ⟨Y, 1, none⟩ = some (.slice D2 m2 d2) := (Lib.cell_of_heap hxy7 1).trans rfl
              have u2 : w7.cell? ⟨Y, 2, none⟩ = some (.slice D3 m3 d3) := (Lib.cell_of_heap hxy7 2).trans rfl
              have HRP7 := Lib.hid (HRP.out w7 hb7)
              have HB7 := Lib.hid (HB.out.trans (hb7.mono HB.out.size))
              clear hb7 hxy7 HRP HB
              go_wp2_with fail
              clear u0 u1 u2
              refine HRP7.out.mono ?_
              rintro e w8 hap
              obtain ⟨v8, l8, e8, _⟩ | ⟨_, rfl, hb8⟩ := hap
              · cases e8
              have hsl := sameList_any [] [] none none 0 0 w8 (by simp) (Row.nil _ _ _) (Row.nil _ _ _)
              have HSL := Lib.hid hsl
              have HB8 := Lib.hid (HB7.out.trans (hb8.mono HB7.out.size))
              clear hb8 hsl HRP7 HB7
              go_wp2_with fail
              refine HSL.out.mono ?_
              rintro e w9 ⟨r9, rfl, hr9, hb9⟩
              obtain rfl : r9 = true := by simpa using hr9
              have HB9 := Lib.hid (HB8.out.trans (hb9.mono HB8.out.size))
              clear hr9 hb9 HSL HB8
              go_wp2_with fail
              first | go_roundw | refine ⟨?rel, ?measure⟩
              case rel => exact ⟨k + 1, by omega, by go_num, HB9.out⟩
              case measure => simp [intOf]; omega
          · have hq0 : decide ((k : Int) < 2) = false := by simp; omega
            have hb5u := HB5T.out.trans (hB.mono HB5T.out.size)
            have h05 := HB5.out
            have hbwu := h05.trans (hb5u.mono h05.size)
            have hx0u := (hbwu.block _ (lt_of_heap HX0.out)).trans HX0.out
            have HCY : Hid (AtCells [(⟨Y, 0, none⟩, .slice D1 m1 d1), (⟨Y, 1, none⟩, .slice D2 m2 d2), (⟨Y, 2, none⟩, .slice D3 m3 d3), (⟨w.heap.size, 0, none⟩, .slice X1 xg xc1), (⟨w.heap.size, 1, none⟩, .slice X2 xc xc2), (⟨w.heap.size, 2, none⟩, .slice X3 xm xc3)] wu) := Lib.hid ⟨u0, u1, u2, (Lib.cell_of_heap hx0u 0).trans rfl, (Lib.cell_of_heap hx0u 1).trans rfl, (Lib.cell_of_heap hx0u 2).trans rfl, trivial⟩
            have HYU := Lib.hid fun w' (hb : Below wu.heap.size wu w') => HEM.out w' (hbsu.trans (hb.mono hbsu.size))
            have HXU := Lib.hid fun w' (hb : Below wu.heap.size wu w') => HXV.out w' (hbwu.trans (hb.mono hbwu.size))
            have HBWU := Lib.hid (HB0.out.trans (hbwu.mono HB0.out.size))
            obtain ⟨qy, hqy⟩ : ∃ qy, qy = decide (od.gone.length + od.come.length + od.moved.length = 0) := ⟨_, rfl⟩
            obtain ⟨qx, hqx⟩ : ∃ qx, qx = decide (x.gone.length + x.come.length + x.moved.length = 0) := ⟨_, rfl⟩
            have HQY := Lib.hid hqy
            have HQX := Lib.hid hqx
            clear hB hlt hb5u h05 hbwu hx0u hbsu hxy u0 u1 u2 hqy hqx
            go_wp2_with fail
            refine wp_region_mix (AtCells [(⟨Y, 0, none⟩, .slice D1 m1 d1), (⟨Y, 1, none⟩, .slice D2 m2 d2), (⟨Y, 2, none⟩, .slice D3 m3 d3), (⟨w.heap.size, 0, none⟩, .slice X1 xg xc1), (⟨w.heap.size, 1, none⟩, .slice X2 xc xc2), (⟨w.heap.size, 2, none⟩, .slice X3 xm xc3)]) [(true, 0), (true, 2), (false, 1), (false, 3), (true, 4), (true, 5), (true, 6), (true, 8), (false, 7), (false, 9), (true, 10), (true, 11), (true, 12), (false, 13), (true, 14)] [15] (by kernel_rfl) (by kernel_rfl) ?sze ?hze
            case sze => exact HCY.out.below (Below.refl _ wu).drew
            case hze =>
            simp only [mixAt, List.filterMap_cons, List.filterMap_nil, List.getElem?_toArray, List.getElem?_cons_succ, List.getElem?_cons_zero, Option.map_some]
            refine wpMix_load ?vena0 rfl (fun w' hS => ?yena0) ?kena0
            case yena0 =>
              obtain ⟨g0, g1, g2, g3, g4, g5, _⟩ := hS
              go_simp
              try rfl
            case kena0 =>
            go_simp
            refine wpMix_load ?venb2 rfl (fun w' hS => ?yenb2) ?kenb2
            case yenb2 =>
              obtain ⟨g0, g1, g2, g3, g4, g5, _⟩ := hS
              go_simp
              try rfl
            case kenb2 =>
            go_simp
            have hem := empty_any _ od _ wu.drew (HYU.out wu.drew (Below.refl _ wu).drew) (by rw [← HYN.out.1, ← HYN.out.2.1, ← HYN.out.2.2]; omega)
            rw [← HQY.out] at hem
            refine wpMix_keep rfl ?_
            go_wp2_with fail
            refine hem.mono ?_
            clear hem
            rintro e u7 ⟨rfl, hb7⟩
            have HB7 := Lib.hid (show Below wu.heap.size wu u7 from (Below.refl _ wu).drew.trans hb7)
            have hem := rempty_any _ od _ u7 (HYU.out u7 HB7.out) (by rw [← HYN.out.1, ← HYN.out.2.1, ← HYN.out.2.2]; omega)
            rw [← HQY.out] at hem
            have HE7 := Lib.hid hem
            have hs7 := HB7.out.size
            clear hb7 hem
            refine ⟨HCY.out.below HB7.out, ?_⟩
            refine wpMix_keep rfl ?_
            go_wp2_with fail
            refine HE7.out.mono ?_
            rintro e u8 ⟨rfl, hb8⟩
            have HB8 := Lib.hid (HB7.out.trans (hb8.mono HB7.out.size))
            clear hb8 HE7 HB7
            refine ⟨HCY.out.below HB8.out, ?_⟩
            go_simp
            refine wpMix_load ?venc4 rfl (fun w' hS => ?yenc4) ?kenc4
            case yenc4 =>
              obtain ⟨g0, g1, g2, g3, g4, g5, _⟩ := hS
              go_simp
              try rfl
            case kenc4 =>
            go_simp
            refine wpMix_load ?venc5 rfl (fun w' hS => ?yenc5) ?kenc5
            case yenc5 =>
              obtain ⟨g0, g1, g2, g3, g4, g5, _⟩ := hS
              go_simp
              try rfl
            case kenc5 =>
            go_simp
            refine wpMix_load ?venc6 rfl (fun w' hS => ?yenc6) ?kenc6
            case yenc6 =>
              obtain ⟨g0, g1, g2, g3, g4, g5, _⟩ := hS
              go_simp
              try rfl
            case kenc6 =>
            go_simp
            refine wpMix_load ?vend8 rfl (fun w' hS => ?yend8) ?kend8
            case yend8 =>
              obtain ⟨g0, g1, g2, g3, g4, g5, _⟩ := hS
              go_simp
              try rfl
            case kend8 =>
            go_simp
            have hem := empty_any _ x _ u8 (HXU.out u8 HB8.out) (by rw [← HXN.out.1, ← HXN.out.2.1, ← HXN.out.2.2]; omega)
            rw [← HQX.out] at hem
            refine wpMix_keep rfl ?_
            go_wp2_with fail
            refine hem.mono ?_
            clear hem
            rintro e u9 ⟨rfl, hb9⟩
            have HB9 := Lib.hid (HB8.out.trans (hb9.mono HB8.out.size))
            have hem := rempty_any _ x _ u9 (HXU.out u9 HB9.out) (by rw [← HXN.out.1, ← HXN.out.2.1, ← HXN.out.2.2]; omega)
            rw [← HQX.out] at hem
            have HE9 := Lib.hid hem
            clear hb9 hem HB8
            refine ⟨HCY.out.below HB9.out, ?_⟩
            refine wpMix_keep rfl ?_
            go_wp2_with fail
            refine HE9.out.mono ?_
            rintro e u10 ⟨rfl, hb10⟩
            have HB10 := Lib.hid (HB9.out.trans (hb10.mono HB9.out.size))
            clear hb10 HE9 HB9
            refine ⟨HCY.out.below HB10.out, ?_⟩
            go_simp
            refine wpMix_load ?vene10 rfl (fun w' hS => ?yene10) ?kene10
            case yene10 =>
              obtain ⟨g0, g1, g2, g3, g4, g5, _⟩ := hS
              go_simp
              try rfl
            case kene10 =>
            go_simp
            refine wpMix_load ?vene11 rfl (fun w' hS => ?yene11) ?kene11
            case yene11 =>
              obtain ⟨g0, g1, g2, g3, g4, g5, _⟩ := hS
              go_simp
              try rfl
            case kene11 =>
            go_simp
            refine wpMix_load ?vene12 rfl (fun w' hS => ?yene12) ?kene12
            case yene12 =>
              obtain ⟨g0, g1, g2, g3, g4, g5, _⟩ := hS
              go_simp
              try rfl
            case kene12 =>
            go_simp
            have HAW := Lib.hid (awake_any u10)
            refine wpMix_keep rfl ?_
            go_wp2_with fail
            refine HAW.out.mono ?_
            rintro e u11 ⟨rfl, hb11⟩
            have HB11 := Lib.hid (HB10.out.trans (hb11.mono HB10.out.size))
            have HEND := Lib.hid (HBWU.out.trans (HB11.out.mono HBWU.out.size))
            refine ⟨HCY.out.below HB11.out, ?_⟩
            clear hb11 HAW HB10 HB11
            go_simp
            refine wpMix_load ?venf14 rfl (fun w' hS => ?yenf14) ?kenf14
            case yenf14 =>
              obtain ⟨g0, g1, g2, g3, g4, g5, _⟩ := hS
              go_simp
              try rfl
            case kenf14 =>
            go_simp
            refine wpMix_nil ?_
            simp only [opsAt, List.filterMap_cons, List.filterMap_nil, List.getElem?_toArray, List.getElem?_cons_succ, List.getElem?_cons_zero]
            go_wp2
            refine NoPanic.normal ?_
            go_wp2
            go_ret
            exact ⟨rfl, HEND.out⟩
end Go.Proofs.Ytlgdminpkkhejaa
