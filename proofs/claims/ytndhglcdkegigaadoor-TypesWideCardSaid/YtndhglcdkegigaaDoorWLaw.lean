/-
  The walk of recompilelaw09.TypesWide.
  Conditions: the number is an int.
-/
import Derived.Test.YtndhglcdkegigaaDoorWLp
import Derived.Test.YtndhglcdkegigaaDoorMix
import Derived.Test.YtndhglcdkegigaaDoorRefSame
namespace Go.Proofs.YtndhglcdkegigaaDoor
open Go.RowKit

theorem wide_num0 : ∀ i : Nat, i < 21 → ((capS (2 ^ (i + 1) - 1) : Nat) : Int) = min (IntKind.i64.wrap (IntKind.i64.wrap (2 * 2 ^ min (IntKind.u64.wrap (i : Int)).toNat 64) - 1)) 201 := by decide +kernel
theorem wide_num {i y x s : Nat} (hy : y = min i 20) (hx : x = capS s) (hs : s + 1 = 2 ^ (i + 1)) : (x : Int) = min (IntKind.i64.wrap (IntKind.i64.wrap (2 * 2 ^ min (IntKind.u64.wrap (y : Int)).toNat 64) - 1)) 201 := by
  have hsz : s = 2 ^ (i + 1) - 1 := by omega
  rw [← wide_num0 y (by omega), hx, hsz]
  by_cases h : i ≤ 20
  · obtain rfl : y = i := by omega
    rfl
  · obtain rfl : y = 20 := by omega
    have : 2 ^ 21 ≤ 2 ^ (i + 1) := Nat.pow_le_pow_right (by omega) (by omega)
    unfold capS
    congr 1
    omega

set_option maxHeartbeats 32000000 in
set_option maxRecDepth 100000 in
theorem law_all (n : Int) (w : World) (h0 : -9223372036854775808 ≤ n) (h1 : n ≤ 9223372036854775807) :
    Calls Tryd.prog 6 #[.int .i64 n] w fun e w' => e = .returned (.bool true) ∧ Below w.heap.size w w' := by
  obtain ⟨k0, hk0, hk30⟩ : ∃ k0 : Nat, n % 30 = (k0 : Int) ∧ k0 < 30 := by
    have h1 := Int.emod_nonneg n (b := 30) (by omega)
    have h2 := Int.emod_lt_of_pos n (b := 30) (by omega)
    exact ⟨(n % 30).toNat, by omega, by omega⟩
  have md := mod_any n 30 w h0 h1 (by omega) (by omega)
  rw [hk0] at md
  have MD := Lib.hid md
  obtain ⟨i0, hi, hz0, hz1, hz2⟩ := info_parts infoE
  clear md hk0
  go_enter Tryd.func6, Tryd.ntmps6
  go_wp2_with fail
  refine MD.out.mono ?_
  rintro e w0 ⟨rfl, rfl⟩
  have hwk : IntKind.i64.wrap (2 + (k0 : Int)) = ((k0 + 2 : Nat) : Int) := by rw [IntKind.wrap_i64]; omega
  obtain ⟨k, hk⟩ : ∃ k, k = k0 + 2 := ⟨_, rfl⟩
  have hk2 : 2 ≤ k := by omega
  have hk31 : k ≤ 31 := by omega
  rw [← hk] at hwk
  have HWK := Lib.hid hwk
  clear MD hk
  have e2 : (2 : Int) + (k0 : Int) = (k : Int) := by have := HWK.out; rw [IntKind.wrap_i64] at this; omega
  go_wp2_with fail
  clear HWK e2
  go_loopw [4, 5] (fun lv iv wr => ∃ (i : Nat) (vs : List EV), i ≤ k ∧ iv = .int .i64 (i : Int) ∧ WqAt w.heap.size i lv vs wr ∧ Below w.heap.size w wr) (fun _ iv _ => k - (intOf iv).toNat)
  case atStart => exact ⟨0, [], Nat.zero_le _, rfl, WqAt.nil _ _, Below.refl _ _⟩
  case round =>
    obtain ⟨i, vs, hik, rfl, hW, hb⟩ := hrel
    obtain ⟨OA, oc, rfl, hoc1, hoc2⟩ := hW.shape
    by_cases hlt : i < k
    · have HW := Lib.hid hW
      have HB := Lib.hid hb
      have hsw := hb.size
      have hwi : IntKind.i64.wrap ((i : Int) + 1) = ((i + 1 : Nat) : Int) := by rw [IntKind.wrap_i64]; omega
      have hcast : ((i : Int) + 1) = ((i + 1 : Nat) : Int) := by omega
      have HC := Lib.hid hcast
      have V0 := Lib.hid (v_any i wr (by omega))
      clear hW hb hcast hwi
      go_wp2_with fail
      refine V0.out.mono ?_
      rintro e w1 ⟨rfl, hb1⟩
      go_wp2_with fail
      have V1 := v_any (i + 1) w1 (by omega)
      rw [← HC.out] at V1
      refine V1.mono ?_
      rintro e w2 ⟨rfl, hb2⟩
      clear V1
      go_wp2_with fail
      have V2 := v_any (i + 1) w2 (by omega)
      rw [← HC.out] at V2
      refine V2.mono ?_
      rintro e w3 ⟨rfl, hb3⟩
      clear V2
      have hb13 := (hb1.trans (hb2.mono hb1.size)).trans (hb3.mono (Nat.le_trans hb1.size hb2.size))
      have hb4 : Below w3.heap.size w3 (w3.alloc (.cells #[sv (vname (i + 1)), .slice none 0 0, sv (vname (i + 1)), .slice none 0 0] 30)) := (Below.refl _ _).alloc (Nat.le_refl _) _
      have hs4 : (w3.alloc (.cells #[sv (vname (i + 1)), .slice none 0 0, sv (vname (i + 1)), .slice none 0 0] 30)).heap.size = w3.heap.size + 1 := Array.size_push _
      have hT4 := alloc1 w3 (.cells #[sv (vname (i + 1)), .slice none 0 0, sv (vname (i + 1)), .slice none 0 0] 30)
      have hb5 : Below w3.heap.size w3 ((w3.alloc (.cells #[sv (vname (i + 1)), .slice none 0 0, sv (vname (i + 1)), .slice none 0 0] 30)).alloc (.cells #[sv (vname i), .slice none 0 0, .string ⟨#[97, 58, 58, 80]⟩, .slice (some ⟨w3.heap.size, 0, none⟩) 2 2] 47)) := hb4.alloc (by rw [hs4]; omega) _
      have hT5 : ((w3.alloc (.cells #[sv (vname (i + 1)), .slice none 0 0, sv (vname (i + 1)), .slice none 0 0] 30)).alloc (.cells #[sv (vname i), .slice none 0 0, .string ⟨#[97, 58, 58, 80]⟩, .slice (some ⟨w3.heap.size, 0, none⟩) 2 2] 47)).heap[w3.heap.size]? = some (.cells #[sv (vname (i + 1)), .slice none 0 0, sv (vname (i + 1)), .slice none 0 0] 30 (0, 0)) := (heap_alloc_old _ _ (by rw [hs4]; omega)).trans hT4
      have hs5 : ((w3.alloc (.cells #[sv (vname (i + 1)), .slice none 0 0, sv (vname (i + 1)), .slice none 0 0] 30)).alloc (.cells #[sv (vname i), .slice none 0 0, .string ⟨#[97, 58, 58, 80]⟩, .slice (some ⟨w3.heap.size, 0, none⟩) 2 2] 47)).heap.size = w3.heap.size + 2 := by rw [show ((w3.alloc (.cells #[sv (vname (i + 1)), .slice none 0 0, sv (vname (i + 1)), .slice none 0 0] 30)).alloc (.cells #[sv (vname i), .slice none 0 0, .string ⟨#[97, 58, 58, 80]⟩, .slice (some ⟨w3.heap.size, 0, none⟩) 2 2] 47)).heap.size = (w3.alloc (.cells #[sv (vname (i + 1)), .slice none 0 0, sv (vname (i + 1)), .slice none 0 0] 30)).heap.size + 1 from Array.size_push _, hs4]
      have hb15 := hb13.trans (hb5.mono hb13.size)
      have HW5 := Lib.hid (HW.out.below hb15)
      have HB5 := Lib.hid (HB.out.trans (hb15.mono HB.out.size))
      have hs13 := hb13.size
      have hown := HW5.out.own
      have hrl : ∀ y, (Value.slice OA i oc).ownBlock = some y → y < wr.heap.size := fun y hy => (HW.out.own.lt y hy).2
      have HX := Lib.hid (wEV_is (i := i) (b := w3.heap.size) (S := fun y => w.heap.size ≤ y ∧ y < ((w3.alloc (.cells #[sv (vname (i + 1)), .slice none 0 0, sv (vname (i + 1)), .slice none 0 0] 30)).alloc (.cells #[sv (vname i), .slice none 0 0, .string ⟨#[97, 58, 58, 80]⟩, .slice (some ⟨w3.heap.size, 0, none⟩) 2 2] 47)).heap.size ∧ some y ≠ (Value.slice OA i oc).ownBlock ∧ PlainB ((w3.alloc (.cells #[sv (vname (i + 1)), .slice none 0 0, sv (vname (i + 1)), .slice none 0 0] 30)).alloc (.cells #[sv (vname i), .slice none 0 0, .string ⟨#[97, 58, 58, 80]⟩, .slice (some ⟨w3.heap.size, 0, none⟩) 2 2] 47)) y) (by omega) hT5 ⟨by omega, by rw [hs5]; omega, fun e => by have := hrl _ e.symm; omega, ⟨_, _, hT5⟩⟩)
      have hE5 : ((w3.alloc (.cells #[sv (vname (i + 1)), .slice none 0 0, sv (vname (i + 1)), .slice none 0 0] 30)).alloc (.cells #[sv (vname i), .slice none 0 0, .string ⟨#[97, 58, 58, 80]⟩, .slice (some ⟨w3.heap.size, 0, none⟩) 2 2] 47)).heap[w3.heap.size + 1]? = some (.cells #[sv (vname i), .slice none 0 0, .string ⟨#[97, 58, 58, 80]⟩, .slice (some ⟨w3.heap.size, 0, none⟩) 2 2] 47 (0, 0)) := by have := alloc1 (w3.alloc (.cells #[sv (vname (i + 1)), .slice none 0 0, sv (vname (i + 1)), .slice none 0 0] 30)) (.cells #[sv (vname i), .slice none 0 0, .string ⟨#[97, 58, 58, 80]⟩, .slice (some ⟨w3.heap.size, 0, none⟩) 2 2] 47); rw [hs4] at this; exact this
      have HE5 := Lib.hid hE5
      have hsz5 : w.heap.size ≤ ((w3.alloc (.cells #[sv (vname (i + 1)), .slice none 0 0, sv (vname (i + 1)), .slice none 0 0] 30)).alloc (.cells #[sv (vname i), .slice none 0 0, .string ⟨#[97, 58, 58, 80]⟩, .slice (some ⟨w3.heap.size, 0, none⟩) 2 2] 47)).heap.size := by rw [hs5]; omega
      clear hE5 hb1 hb2 hb3 hb13 hb4 hb5 hb15 hT4 hT5 V0 hrl
      go_wp2_with (at_builtin; refine wpList_append_lies _ rfl _ _ 43 rfl w.heap.size 47 i0 _ 4 80 Tryd.underlying43 hi hz0 hz1 hz2 rfl (by omega) _ i (flat4 vs) rfl hown ⟨w3.heap.size + 1, 0, none⟩ 1 1 [sv (vname i), .slice none 0 0, .string ⟨#[97, 58, 58, 80]⟩, .slice (some ⟨w3.heap.size, 0, none⟩) 2 2] rfl rfl ?d1 ?d2 (by omega) ?d3 ?d4 ?d5 _ rfl ?_)
      case d1 => exact World.news_of_block (cs := #[sv (vname i), .slice none 0 0, .string ⟨#[97, 58, 58, 80]⟩, .slice (some ⟨w3.heap.size, 0, none⟩) 2 2]) HE5.out
      case d2 => simp [Value.oneCell']
      case d3 => unfold maxLen; omega
      case d4 => omega
      case d5 => exact hsz5
      intro g cap w6 hown6 hgrow hat _
      have hb6 : Below w.heap.size w w6 := HB5.out.grown hgrow hsz5 fun r hr => (hown.lt _ hr).1
      have HB6 := Lib.hid hb6
      have HW6 := Lib.hid (HW5.out.push (p := wEV i w3.heap.size) HX.out hown6 hgrow (hat.imp id fun e => by rw [e]; exact Nat.le_of_eq hs5))
      clear hb6 hown6 hgrow hat hown
      go_wp2
      go_roundw
      case rel => exact ⟨i + 1, _, by omega, by go_num, HW6.out, HB6.out⟩
      case measure => simp [intOf]; omega
    · obtain rfl : i = k := by omega
      have SLV := Lib.hid (wsolve_any i OA oc vs wr hW.row (by omega))
      have HB := Lib.hid hb
      clear hW hb
      go_wp2_with fail
      refine SLV.out.mono ?_
      rintro e w1 ⟨rs, G, LA, DA, lc, dc, ls, rfl, hch, hty, hll, hlm, hrow, hb1, hGQ, hsnd⟩
      obtain ⟨ρ, hr⟩ := hch.rank
      have hsol : solv (solL G) = solOf G := solv_solL fun g hg => wty_down.full _ (hGQ g hg).1
      have hqs : ∀ m u, solv (solL G) m = some u → WTy u := fun m u h => by
        rw [hsol] at h
        obtain ⟨q, hq⟩ := find_mem h
        exact (hGQ _ hq).1
      obtain ⟨θ, hθ⟩ := appl_ex hr
      obtain ⟨hdr, hsize⟩ := wide_plain hch (hsnd wty_clean) hr hθ
      rw [hdr]
      rw [← hsol] at hr hθ
      have hlen : (solL G).length = solLen G := by simp [solL]
      obtain ⟨L, hL⟩ : ∃ L, L = solL G := ⟨_, rfl⟩
      rw [← hL] at hr hθ hqs hty hlen
      have hts : Tys w1 (Lt w1.heap.size) LA L ls := hty.more fun y hy => hy.2
      have hlm2 : L.length ≤ 4000000 := by
        rw [hlen]
        rcases solLen_at G with h | ⟨g, hg, h⟩
        · omega
        · have := (hGQ g hg).2; omega
      obtain ⟨m, hm⟩ : ∃ m, m = solLen G := ⟨_, rfl⟩
      rw [← hm] at hlen ⊢
      obtain ⟨x, hx⟩ : ∃ x, x = capS (sub θ (tyV 0)).size := ⟨_, rfl⟩
      have hv0 : ∀ w', TyIs w' (Lt w'.heap.size) (tyV 0) (sv (vname 0)) (.slice none 0 0) := fun w' => (Tys.nil w' _ none).close (by have := dec_len (j := 0) (by omega); simp [vname]; omega) (Nat.zero_le _) ⟨Nat.le_refl _, Nat.zero_le _⟩
      have HNO : Hid (∀ w', Below w1.heap.size w1 w' → Calls Tryd.prog 23 #[.slice LA m lc, .agg #[sv (vname 0), .slice none 0 0]] w' fun e w'' => e = .returned (.int .i64 (x : Int)) ∧ Below w'.heap.size w' w'') := Lib.hid fun w' hb => by
        have := tnodes_any L WTy wty_down.toDown hqs ρ hr θ hθ LA lc ls (tyV 0) _ _ w' (hts.now (Nat.le_refl _) hb) (hv0 w') hlm2 (.v 0 (by omega))
        rw [hlen, ← hx] at this
        exact this
      have HAP : Hid (∀ w', Below w1.heap.size w1 w' → Calls Tryd.prog 25 #[.slice LA m lc, .agg #[sv (vname 0), .slice none 0 0]] w' (MadeTy (appT θ (tyV 0)) w')) := Lib.hid fun w' hb => by
        have := tapply_any L WTy wty_down.toDown hqs ρ hr θ hθ LA lc ls (tyV 0) _ _ w' (hts.now (Nat.le_refl _) hb) (hv0 w') hlm2 (.v 0 (by omega))
        rw [hlen] at this
        exact this
      have HRA : Hid (∀ w', Below w1.heap.size w1 w' → Calls Tryd.prog 26 #[.slice LA m lc, .agg #[sv (vname 0), .slice none 0 0]] w' (MadeTy (appT θ (tyV 0)) w')) := Lib.hid fun w' hb => by
        have := rApply_any (Lt w'.heap.size) L LA lc ls WTy wty_down.toDown hqs ρ hr θ hθ (tyV 0) _ _ w' ⟨hts.now (Nat.le_refl _) hb, fun b h => h⟩ hlm2 (hv0 w') (.v 0 (by omega))
        rw [hlen] at this
        exact this
      have HV0 : Hid (∀ w', Calls Tryd.prog 24 #[.int .i64 0] w' fun e w'' => e = .returned (.agg #[sv (vname 0), .slice none 0 0]) ∧ Below w'.heap.size w' w'') := Lib.hid fun w' => v_any 0 w' (by omega)
      have HSZ : Hid ((θ 0).size + 1 = 2 ^ (i + 1)) := Lib.hid hsize
      have HX := Lib.hid hx
      obtain ⟨T, hT⟩ : ∃ T, T = appT θ (tyV 0) := ⟨_, rfl⟩
      rw [← hT] at HAP HRA
      have HT := Lib.hid hT
      have HB1 := Lib.hid (HB.out.trans (hb1.mono HB.out.size))
      clear hsol hqs hts hr hθ hlen hL hm hx hv0 hsize hT hty hrow hch hsnd hGQ hdr hb1 hlm2 hll SLV
      go_wp2_with fail
      refine (HV0.out w1).mono ?_
      rintro e w2 ⟨rfl, hb2⟩
      have HB2 := Lib.hid hb2
      clear hb2
      go_wp2_with fail
      refine (HAP.out w2 HB2.out).mono ?_
      rintro e w3 ⟨u, v, rfl, hTT, hb3⟩
      obtain ⟨u, v, rfl, rfl⟩ := hTT.shape
      have HB3 := Lib.hid (HB2.out.trans (hb3.mono HB2.out.size))
      have HTT := Lib.hid (hTT.more (S' := Lt w3.heap.size) fun y hy => hy.2)
      clear hTT hb3
      go_wp2_with fail
      obtain ⟨w4, hw4⟩ : ∃ w4, w4 = w3.alloc (.cells #[sv u, .slice v.1 v.2.1 v.2.2] 30) := ⟨_, rfl⟩
      have hb4 : Below w3.heap.size w3 w4 := by rw [hw4]; exact (Below.refl _ _).alloc (Nat.le_refl _) _
      have hX4 : w4.heap[w3.heap.size]? = some (.cells #[sv u, .slice v.1 v.2.1 v.2.2] 30 (0, 0)) := by rw [hw4]; exact alloc1 _ _
      have HXC : Hid (∀ w', Below w4.heap.size w4 w' → w'.cell? ⟨w3.heap.size, 0, none⟩ = some (sv u) ∧ w'.cell? ⟨w3.heap.size, 1, none⟩ = some (.slice v.1 v.2.1 v.2.2)) := Lib.hid fun w' hb => by
        have := (hb.block _ (lt_of_heap hX4)).trans hX4
        exact ⟨(Lib.cell_of_heap this _).trans rfl, (Lib.cell_of_heap this _).trans rfl⟩
      have HB34 := Lib.hid hb4
      have HB4 := Lib.hid (HB3.out.trans (hb4.mono HB3.out.size))
      rw [← hw4]
      clear hb4 hX4 hw4
      obtain ⟨y, hy⟩ : ∃ y, y = min i 20 := ⟨_, rfl⟩
      have hmin : min (i : Int) 20 = (y : Int) := by omega
      have HY := Lib.hid hy
      clear hy
      by_cases hs8 : i < 8
      · have hs8i : decide ((i : Int) < 8) = true := by simp; omega
        refine wp_region_mix (fun w' => w'.cell? ⟨w3.heap.size, 0, none⟩ = some (sv u) ∧ w'.cell? ⟨w3.heap.size, 1, none⟩ = some (.slice v.1 v.2.1 v.2.2)) [(false, 0), (true, 1), (true, 2), (true, 3), (true, 4), (true, 5), (true, 6), (true, 7), (true, 8), (false, 9), (false, 10), (false, 11), (true, 12), (true, 13), (true, 14), (true, 15), (true, 16), (true, 17), (true, 18), (true, 19), (true, 20), (true, 21), (true, 22), (true, 23), (true, 26), (true, 27), (true, 28), (true, 29), (true, 30), (true, 31), (false, 24), (false, 25), (true, 32), (true, 33)] [34] (by kernel_rfl) (by kernel_rfl) (HXC.out _ (Below.refl _ _).drew) ?ma
        case ma =>
        simp only [mixAt, opsAt, List.filterMap_cons, List.filterMap_nil, List.getElem?_toArray, List.getElem?_cons_succ, List.getElem?_cons_zero, Option.map_some]
        obtain ⟨w5, hw5⟩ : ∃ w5, w5 = w4.drew := ⟨_, rfl⟩
        have HB5 : Hid (Below w4.heap.size w4 w5) := Lib.hid (by rw [hw5]; exact (Below.refl _ _).drew)
        rw [← hw5]
        clear hw5
        refine wpMix_keep rfl ?_
        go_simp
        refine (awake_any w5).mono ?_
        rintro e w6 ⟨rfl, hb⟩
        have HB6 := Lib.hid (HB5.out.trans (hb.mono HB5.out.size))
        refine ⟨HXC.out _ HB6.out, ?_⟩
        clear hb
        refine wpMix_load ?va1 rfl (fun w' hS => ?ya1) ?ka1
        case ya1 =>
          obtain ⟨h1, h2⟩ := hS
          go_simp
          try rfl
        case ka1 =>
        go_simp
        refine wpMix_load ?va2 rfl (fun w' hS => ?ya2) ?ka2
        case ya2 =>
          obtain ⟨h1, h2⟩ := hS
          go_simp
          try rfl
        case ka2 =>
        go_simp
        refine wpMix_load ?va3 rfl (fun w' hS => ?ya3) ?ka3
        case ya3 =>
          obtain ⟨h1, h2⟩ := hS
          go_simp
          try rfl
        case ka3 =>
        go_simp
        refine wpMix_load ?va4 rfl (fun w' hS => ?ya4) ?ka4
        case ya4 =>
          obtain ⟨h1, h2⟩ := hS
          go_simp
          try rfl
        case ka4 =>
        go_simp
        refine wpMix_load ?va5 rfl (fun w' hS => ?ya5) ?ka5
        case ya5 =>
          obtain ⟨h1, h2⟩ := hS
          go_simp
          try rfl
        case ka5 =>
        go_simp
        refine wpMix_load ?va6 rfl (fun w' hS => ?ya6) ?ka6
        case ya6 =>
          obtain ⟨h1, h2⟩ := hS
          go_simp
          try rfl
        case ka6 =>
        go_simp
        refine wpMix_load ?va7 rfl (fun w' hS => ?ya7) ?ka7
        case ya7 =>
          obtain ⟨h1, h2⟩ := hS
          go_simp
          try rfl
        case ka7 =>
        go_simp
        refine wpMix_load ?va8 rfl (fun w' hS => ?ya8) ?ka8
        case ya8 =>
          obtain ⟨h1, h2⟩ := hS
          go_simp
          try rfl
        case ka8 =>
        go_simp
        refine wpMix_keep rfl ?_
        go_simp
        refine (HV0.out w6).mono ?_
        rintro e w7 ⟨rfl, hb⟩
        have HB7 := Lib.hid (HB6.out.trans (hb.mono HB6.out.size))
        refine ⟨HXC.out _ HB7.out, ?_⟩
        clear hb
        refine wpMix_keep rfl ?_
        go_simp
        refine (HRA.out w7 (HB4.out.trans (HB7.out.mono HB4.out.size))).mono ?_
        rintro e w8 ⟨u', v', rfl, hT2, hb⟩
        have HB8 := Lib.hid (HB7.out.trans (hb.mono HB7.out.size))
        refine ⟨HXC.out _ HB8.out, ?_⟩
        have hT8 : TyIs w8 (Lt w8.heap.size) T u' v' := hT2.more fun y hy => hy.2
        obtain ⟨u', v', rfl, rfl⟩ := hT8.shape
        have SM := Lib.hid (refSame_any T T (sv u) (.slice v.1 v.2.1 v.2.2) _ _ w8 (HTT.out.now (Nat.le_refl _) (HB34.out.trans (HB8.out.mono HB34.out.size))) hT8)
        clear hb hT2 hT8
        refine wpMix_keep rfl ?_
        go_simp
        refine SM.out.mono ?_
        rintro e w9 ⟨b, rfl, hbb, hb⟩
        obtain rfl : b = true := hbb.2 rfl
        have HB9 := Lib.hid (HB8.out.trans (hb.mono HB8.out.size))
        refine ⟨HXC.out _ HB9.out, ?_⟩
        clear hb hbb SM
        refine wpMix_load ?va12 rfl (fun w' hS => ?ya12) ?ka12
        case ya12 =>
          obtain ⟨h1, h2⟩ := hS
          go_simp
          try rfl
        case ka12 =>
        go_simp
        refine wpMix_load ?va13 rfl (fun w' hS => ?ya13) ?ka13
        case ya13 =>
          obtain ⟨h1, h2⟩ := hS
          go_simp
          try rfl
        case ka13 =>
        go_simp
        refine wpMix_load ?va14 rfl (fun w' hS => ?ya14) ?ka14
        case ya14 =>
          obtain ⟨h1, h2⟩ := hS
          go_simp
          try rfl
        case ka14 =>
        go_simp
        refine wpMix_load ?va15 rfl (fun w' hS => ?ya15) ?ka15
        case ya15 =>
          obtain ⟨h1, h2⟩ := hS
          go_simp
          try rfl
        case ka15 =>
        go_simp
        refine wpMix_load ?va16 rfl (fun w' hS => ?ya16) ?ka16
        case ya16 =>
          obtain ⟨h1, h2⟩ := hS
          go_simp
          try rfl
        case ka16 =>
        go_simp
        refine wpMix_skip rfl ?_
        go_simp
        refine wpMix_skip rfl ?_
        go_simp
        refine wpMix_skip rfl ?_
        go_simp
        refine wpMix_load ?va20 rfl (fun w' hS => ?ya20) ?ka20
        case ya20 =>
          obtain ⟨h1, h2⟩ := hS
          go_simp
          try rfl
        case ka20 =>
        go_simp
        refine wpMix_load ?va21 rfl (fun w' hS => ?ya21) ?ka21
        case ya21 =>
          obtain ⟨h1, h2⟩ := hS
          go_simp
          try rfl
        case ka21 =>
        go_simp
        refine wpMix_load ?va22 rfl (fun w' hS => ?ya22) ?ka22
        case ya22 =>
          obtain ⟨h1, h2⟩ := hS
          go_simp
          try rfl
        case ka22 =>
        go_simp
        refine wpMix_load ?va23 rfl (fun w' hS => ?ya23) ?ka23
        case ya23 =>
          obtain ⟨h1, h2⟩ := hS
          go_simp
          try rfl
        case ka23 =>
        go_simp
        refine wpMix_load ?va26 rfl (fun w' hS => ?ya26) ?ka26
        case ya26 =>
          obtain ⟨h1, h2⟩ := hS
          go_simp
          try rfl
        case ka26 =>
        go_simp
        refine wpMix_load ?va27 rfl (fun w' hS => ?ya27) ?ka27
        case ya27 =>
          obtain ⟨h1, h2⟩ := hS
          go_simp
          try rfl
        case ka27 =>
        go_simp
        refine wpMix_load ?va28 rfl (fun w' hS => ?ya28) ?ka28
        case ya28 =>
          obtain ⟨h1, h2⟩ := hS
          go_simp
          try rfl
        case ka28 =>
        go_simp
        refine wpMix_load ?va29 rfl (fun w' hS => ?ya29) ?ka29
        case ya29 =>
          obtain ⟨h1, h2⟩ := hS
          go_simp
          try rfl
        case ka29 =>
        go_simp
        refine wpMix_load ?va30 rfl (fun w' hS => ?ya30) ?ka30
        case ya30 =>
          obtain ⟨h1, h2⟩ := hS
          go_simp
          try rfl
        case ka30 =>
        go_simp
        refine wpMix_load ?va31 rfl (fun w' hS => ?ya31) ?ka31
        case ya31 =>
          obtain ⟨h1, h2⟩ := hS
          go_simp
          try rfl
        case ka31 =>
        go_simp
        refine wpMix_keep rfl ?_
        go_simp
        refine (HV0.out w9).mono ?_
        rintro e w10 ⟨rfl, hb⟩
        have HB10 := Lib.hid (HB9.out.trans (hb.mono HB9.out.size))
        refine ⟨HXC.out _ HB10.out, ?_⟩
        clear hb
        refine wpMix_keep rfl ?_
        go_simp
        refine (HNO.out w10 (HB4.out.trans (HB10.out.mono HB4.out.size))).mono ?_
        rintro e w11 ⟨rfl, hb⟩
        have HB11 := Lib.hid (HB10.out.trans (hb.mono HB10.out.size))
        refine ⟨HXC.out _ HB11.out, ?_⟩
        clear hb
        refine wpMix_load (.bool true) rfl (fun w' hS => ?ya32) ?ka32
        case ya32 =>
          obtain ⟨h1, h2⟩ := hS
          go_simp
          exact wide_num HY.out HX.out (by rw [sub_wv]; exact HSZ.out)
        case ka32 =>
        go_simp
        refine wpMix_load ?va33 rfl (fun w' hS => ?ya33) ?ka33
        case ya33 =>
          obtain ⟨h1, h2⟩ := hS
          go_simp
          try rfl
        case ka33 =>
        go_simp
        refine wpMix_nil ?_
        have HBR := Lib.hid (HB1.out.trans ((HB4.out.trans (HB11.out.mono HB4.out.size)).mono HB1.out.size))
        go_wp2
        refine NoPanic.normal ?_
        go_wp2
        go_ret
        exact ⟨rfl, HBR.out⟩

      · have hs8i : decide ((i : Int) < 8) = false := by simp; omega
        have hTe : T = errT := by
          rw [HT.out]
          unfold appT
          rw [if_pos]
          rw [sub_wv]
          have h1 := HSZ.out
          have h2 : 2 ^ 9 ≤ 2 ^ (i + 1) := Nat.pow_le_pow_right (by omega) (by omega)
          omega
        have hue : u = [101, 114, 114, 111, 114] := by
          obtain ⟨_, _, _, e, _⟩ := HTT.out.open_
          have h1 : u = T.name := bs_inj (by injection e)
          rw [h1, hTe]
          rfl
        have hub : ((bs u).toList == [101, 114, 114, 111, 114]) = true := by rw [Lib.toList_data, bs_data, hue]; decide
        clear hTe hue
        refine wp_region_mix (fun w' => w'.cell? ⟨w3.heap.size, 0, none⟩ = some (sv u) ∧ w'.cell? ⟨w3.heap.size, 1, none⟩ = some (.slice v.1 v.2.1 v.2.2)) [(false, 0), (true, 1), (true, 2), (true, 3), (true, 4), (true, 5), (true, 6), (true, 7), (true, 8), (false, 9), (false, 10), (false, 11), (true, 12), (true, 13), (true, 14), (true, 15), (true, 16), (true, 17), (true, 18), (true, 19), (true, 20), (true, 21), (true, 22), (true, 23), (true, 26), (true, 27), (true, 28), (true, 29), (true, 30), (true, 31), (false, 24), (false, 25), (true, 32), (true, 33)] [34] (by kernel_rfl) (by kernel_rfl) (HXC.out _ (Below.refl _ _).drew) ?mb
        case mb =>
        simp only [mixAt, opsAt, List.filterMap_cons, List.filterMap_nil, List.getElem?_toArray, List.getElem?_cons_succ, List.getElem?_cons_zero, Option.map_some]
        obtain ⟨w5, hw5⟩ : ∃ w5, w5 = w4.drew := ⟨_, rfl⟩
        have HB5 : Hid (Below w4.heap.size w4 w5) := Lib.hid (by rw [hw5]; exact (Below.refl _ _).drew)
        rw [← hw5]
        clear hw5
        refine wpMix_keep rfl ?_
        go_simp
        refine (awake_any w5).mono ?_
        rintro e w6 ⟨rfl, hb⟩
        have HB6 := Lib.hid (HB5.out.trans (hb.mono HB5.out.size))
        refine ⟨HXC.out _ HB6.out, ?_⟩
        clear hb
        refine wpMix_load ?vb1 rfl (fun w' hS => ?yb1) ?kb1
        case yb1 =>
          obtain ⟨h1, h2⟩ := hS
          go_simp
          try rfl
        case kb1 =>
        go_simp
        refine wpMix_load ?vb2 rfl (fun w' hS => ?yb2) ?kb2
        case yb2 =>
          obtain ⟨h1, h2⟩ := hS
          go_simp
          try rfl
        case kb2 =>
        go_simp
        refine wpMix_load ?vb3 rfl (fun w' hS => ?yb3) ?kb3
        case yb3 =>
          obtain ⟨h1, h2⟩ := hS
          go_simp
          try rfl
        case kb3 =>
        go_simp
        refine wpMix_load ?vb4 rfl (fun w' hS => ?yb4) ?kb4
        case yb4 =>
          obtain ⟨h1, h2⟩ := hS
          go_simp
          try rfl
        case kb4 =>
        go_simp
        refine wpMix_load ?vb5 rfl (fun w' hS => ?yb5) ?kb5
        case yb5 =>
          obtain ⟨h1, h2⟩ := hS
          go_simp
          try rfl
        case kb5 =>
        go_simp
        refine wpMix_load ?vb6 rfl (fun w' hS => ?yb6) ?kb6
        case yb6 =>
          obtain ⟨h1, h2⟩ := hS
          go_simp
          try rfl
        case kb6 =>
        go_simp
        refine wpMix_load ?vb7 rfl (fun w' hS => ?yb7) ?kb7
        case yb7 =>
          obtain ⟨h1, h2⟩ := hS
          go_simp
          try rfl
        case kb7 =>
        go_simp
        refine wpMix_load ?vb8 rfl (fun w' hS => ?yb8) ?kb8
        case yb8 =>
          obtain ⟨h1, h2⟩ := hS
          go_simp
          try rfl
        case kb8 =>
        go_simp
        refine wpMix_keep rfl ?_
        go_simp
        refine (HV0.out w6).mono ?_
        rintro e w7 ⟨rfl, hb⟩
        have HB7 := Lib.hid (HB6.out.trans (hb.mono HB6.out.size))
        refine ⟨HXC.out _ HB7.out, ?_⟩
        clear hb
        refine wpMix_keep rfl ?_
        go_simp
        refine (HRA.out w7 (HB4.out.trans (HB7.out.mono HB4.out.size))).mono ?_
        rintro e w8 ⟨u', v', rfl, hT2, hb⟩
        have HB8 := Lib.hid (HB7.out.trans (hb.mono HB7.out.size))
        refine ⟨HXC.out _ HB8.out, ?_⟩
        have hT8 : TyIs w8 (Lt w8.heap.size) T u' v' := hT2.more fun y hy => hy.2
        obtain ⟨u', v', rfl, rfl⟩ := hT8.shape
        have SM := Lib.hid (refSame_any T T (sv u) (.slice v.1 v.2.1 v.2.2) _ _ w8 (HTT.out.now (Nat.le_refl _) (HB34.out.trans (HB8.out.mono HB34.out.size))) hT8)
        clear hb hT2 hT8
        refine wpMix_keep rfl ?_
        go_simp
        refine SM.out.mono ?_
        rintro e w9 ⟨b, rfl, hbb, hb⟩
        obtain rfl : b = true := hbb.2 rfl
        have HB9 := Lib.hid (HB8.out.trans (hb.mono HB8.out.size))
        refine ⟨HXC.out _ HB9.out, ?_⟩
        clear hb hbb SM
        refine wpMix_load ?vb12 rfl (fun w' hS => ?yb12) ?kb12
        case yb12 =>
          obtain ⟨h1, h2⟩ := hS
          go_simp
          try rfl
        case kb12 =>
        go_simp
        refine wpMix_load ?vb13 rfl (fun w' hS => ?yb13) ?kb13
        case yb13 =>
          obtain ⟨h1, h2⟩ := hS
          go_simp
          try rfl
        case kb13 =>
        go_simp
        refine wpMix_load ?vb14 rfl (fun w' hS => ?yb14) ?kb14
        case yb14 =>
          obtain ⟨h1, h2⟩ := hS
          go_simp
          try rfl
        case kb14 =>
        go_simp
        refine wpMix_load ?vb15 rfl (fun w' hS => ?yb15) ?kb15
        case yb15 =>
          obtain ⟨h1, h2⟩ := hS
          go_simp
          try rfl
        case kb15 =>
        go_simp
        refine wpMix_load ?vb16 rfl (fun w' hS => ?yb16) ?kb16
        case yb16 =>
          obtain ⟨h1, h2⟩ := hS
          go_simp
          try rfl
        case kb16 =>
        go_simp
        refine wpMix_load ?vb17 rfl (fun w' hS => ?yb17) ?kb17
        case yb17 =>
          obtain ⟨h1, h2⟩ := hS
          go_simp
          try rfl
        case kb17 =>
        go_simp
        refine wpMix_load ?vb18 rfl (fun w' hS => ?yb18) ?kb18
        case yb18 =>
          obtain ⟨h1, h2⟩ := hS
          go_simp
          try rfl
        case kb18 =>
        go_simp
        refine wpMix_load ?vb19 rfl (fun w' hS => ?yb19) ?kb19
        case yb19 =>
          obtain ⟨h1, h2⟩ := hS
          go_simp
          try rfl
        case kb19 =>
        go_simp
        refine wpMix_load ?vb20 rfl (fun w' hS => ?yb20) ?kb20
        case yb20 =>
          obtain ⟨h1, h2⟩ := hS
          go_simp
          try rfl
        case kb20 =>
        go_simp
        refine wpMix_load ?vb21 rfl (fun w' hS => ?yb21) ?kb21
        case yb21 =>
          obtain ⟨h1, h2⟩ := hS
          go_simp
          try rfl
        case kb21 =>
        go_simp
        refine wpMix_load ?vb22 rfl (fun w' hS => ?yb22) ?kb22
        case yb22 =>
          obtain ⟨h1, h2⟩ := hS
          go_simp
          try rfl
        case kb22 =>
        go_simp
        refine wpMix_load ?vb23 rfl (fun w' hS => ?yb23) ?kb23
        case yb23 =>
          obtain ⟨h1, h2⟩ := hS
          go_simp
          try rfl
        case kb23 =>
        go_simp
        refine wpMix_load ?vb26 rfl (fun w' hS => ?yb26) ?kb26
        case yb26 =>
          obtain ⟨h1, h2⟩ := hS
          go_simp
          try rfl
        case kb26 =>
        go_simp
        refine wpMix_load ?vb27 rfl (fun w' hS => ?yb27) ?kb27
        case yb27 =>
          obtain ⟨h1, h2⟩ := hS
          go_simp
          try rfl
        case kb27 =>
        go_simp
        refine wpMix_load ?vb28 rfl (fun w' hS => ?yb28) ?kb28
        case yb28 =>
          obtain ⟨h1, h2⟩ := hS
          go_simp
          try rfl
        case kb28 =>
        go_simp
        refine wpMix_load ?vb29 rfl (fun w' hS => ?yb29) ?kb29
        case yb29 =>
          obtain ⟨h1, h2⟩ := hS
          go_simp
          try rfl
        case kb29 =>
        go_simp
        refine wpMix_load ?vb30 rfl (fun w' hS => ?yb30) ?kb30
        case yb30 =>
          obtain ⟨h1, h2⟩ := hS
          go_simp
          try rfl
        case kb30 =>
        go_simp
        refine wpMix_load ?vb31 rfl (fun w' hS => ?yb31) ?kb31
        case yb31 =>
          obtain ⟨h1, h2⟩ := hS
          go_simp
          try rfl
        case kb31 =>
        go_simp
        refine wpMix_keep rfl ?_
        go_simp
        refine (HV0.out w9).mono ?_
        rintro e w10 ⟨rfl, hb⟩
        have HB10 := Lib.hid (HB9.out.trans (hb.mono HB9.out.size))
        refine ⟨HXC.out _ HB10.out, ?_⟩
        clear hb
        refine wpMix_keep rfl ?_
        go_simp
        refine (HNO.out w10 (HB4.out.trans (HB10.out.mono HB4.out.size))).mono ?_
        rintro e w11 ⟨rfl, hb⟩
        have HB11 := Lib.hid (HB10.out.trans (hb.mono HB10.out.size))
        refine ⟨HXC.out _ HB11.out, ?_⟩
        clear hb
        refine wpMix_load (.bool true) rfl (fun w' hS => ?yb32) ?kb32
        case yb32 =>
          obtain ⟨h1, h2⟩ := hS
          go_simp
          exact wide_num HY.out HX.out (by rw [sub_wv]; exact HSZ.out)
        case kb32 =>
        go_simp
        refine wpMix_load ?vb33 rfl (fun w' hS => ?yb33) ?kb33
        case yb33 =>
          obtain ⟨h1, h2⟩ := hS
          go_simp
          try rfl
        case kb33 =>
        go_simp
        refine wpMix_nil ?_
        have HBR := Lib.hid (HB1.out.trans ((HB4.out.trans (HB11.out.mono HB4.out.size)).mono HB1.out.size))
        go_wp2
        refine NoPanic.normal ?_
        go_wp2
        go_ret
        exact ⟨rfl, HBR.out⟩

end Go.Proofs.YtndhglcdkegigaaDoor
