/-
  The walks of fact.Signature and of what it calls: type parameters, types, the signature.
  Conditions: 'Env'; the kind is an int of 64 bits; what is written is of at most 4000000 bytes.
-/
import Derived.Test.YtkggmckfdkpldaaDoorFcA
import Derived.Test.YtkggmckfdkpldaaDoorFeM
import Derived.Test.YtkggmckfdkpldaaDoorFeR
namespace Go.Proofs.YtkggmckfdkpldaaDoor
open Go.RowKit

set_option maxHeartbeats 1600000 in
set_option maxRecDepth 100000 in
theorem param_any (p : Par) (w : World) (he : Env w) (hsz : (parS p).length ≤ 1000000000) :
    Calls Tryd.prog 28 #[.agg #[sv p.1, sv p.2]] w fun e w' => e = .returned (sv (parS p)) ∧ Below w.heap.size w w' := by
  obtain ⟨a, b⟩ := p
  obtain ⟨w1, hw1⟩ : ∃ w1, w1 = w.alloc (.cells #[sv a, sv b] 65) := ⟨_, rfl⟩
  have hb1 : Below w.heap.size w w1 := by rw [hw1]; exact (Below.refl _ _).alloc (Nat.le_refl _) _
  have hh : w1.heap[w.heap.size]? = some (.cells #[sv a, sv b] 65 (0, 0)) := by rw [hw1]; exact alloc1 _ _
  have z0 : w1.cell? ⟨w.heap.size, 0, none⟩ = some (sv a) := (Lib.cell_of_heap hh _).trans rfl
  have z1 : w1.cell? ⟨w.heap.size, 1, none⟩ = some (sv b) := (Lib.cell_of_heap hh _).trans rfl
  have hb2 : Below w1.heap.size w1 (w1.alloc (.cells #[sv a, sv b] 9)) := (Below.refl _ _).alloc (Nat.le_refl _) _
  have hb3 := hb1.trans (hb2.mono hb1.size)
  have hS : Strs (w1.alloc (.cells #[sv a, sv b] 9)) (w1.heap.size + 1) (some ⟨w1.heap.size, 0, none⟩) 2 [a, b] := strsNew w1 9 [a, b]
  have HSZ1 : Hid (w.heap.size + 1 = w1.heap.size) := Lib.hid (by rw [hw1]; simp)
  have HE := Lib.hid (he.below hb3)
  have HST := Lib.hid hS
  have hSZ : (pack [a, b]).length ≤ 1000000000 := hsz
  have HQ : Hid (parS (a, b) = pack [a, b]) := Lib.hid rfl
  have HB3 := Lib.hid hb3
  clear hh hS hb2 hb1 hb3 he hsz
  simp only
  go_enter Tryd.func28, Tryd.ntmps28
  go_wp2_with fail
  rw [← hw1, HSZ1.out]
  clear hw1
  refine (pack_any _ 2 2 _ _ _ HE.out HST.out (by simp) hSZ (by decide)).mono ?_
  rintro e w2 ⟨rfl, hb⟩
  have HB4 := Lib.hid (HB3.out.trans (hb.mono HB3.out.size))
  clear hb
  go_wp2
  go_ret
  rw [HQ.out]
  exact ⟨rfl, HB4.out⟩
set_option maxHeartbeats 1600000 in
set_option maxRecDepth 100000 in
theorem eachParam_any (l : List Par) (A : Option Addr) (c : Nat) (w : World) (he : Env w) (hT : Row w (Lt w.heap.size) A (flt parC l)) (hsz : (parsS l).length ≤ 1000000000) :
    Calls Tryd.prog 27 #[.slice A l.length c, fnV 28] w fun e w' => e = .returned (sv (parsS l)) ∧ Below w.heap.size w w' := by
  obtain ⟨i0, hi, hz0, hz1, hz2⟩ := info_parts infoS
  obtain ⟨n, hn⟩ : ∃ n, n = l.length := ⟨_, rfl⟩
  have hn9 : n ≤ 1000000000 := by
    have := pack_count (l.map parS)
    rw [List.length_map] at this
    unfold parsS at hsz
    omega
  rw [← hn]
  obtain ⟨wc, hmk, hown, hgr⟩ := run_make_full (P := Tryd.prog) w w.heap.size 28 9 i0 _ 1 Tryd.underlying28 hi hz0 hz1 .i64 .i64 n (by rw [hz2]; omega) (by unfold maxLen; omega) (by omega)
  have hbc : Below w.heap.size w wc := ⟨hgr.os, hgr.tape, hgr.output, hgr.size, fun y hy => hgr.block y hy (by simp)⟩
  rw [madeS] at hown
  have HN := Lib.hid hn
  have HT := Lib.hid hT
  have HE := Lib.hid he
  have HSZ := Lib.hid hsz
  have HM : Hid ((l.map fun x => sv (parS x)).length = n) := Lib.hid (by rw [List.length_map, hn])
  have HBC := Lib.hid hbc
  have HOW := Lib.hid hown
  clear hn hT he hsz hbc hgr hown
  go_enter Tryd.func27, Tryd.ntmps27
  go_wp2_with fail
  clear hmk
  go_loopw [13] (fun i wr => ∃ k : Nat, k ≤ n ∧ i = .int .i64 k ∧ wr.ownsRow w.heap.size 9 1 (.slice (some ⟨w.heap.size, 0, none⟩) n n) n ((l.map fun x => sv (parS x)).take k ++ List.replicate (n - k) (sv [])) ∧ Below w.heap.size w wr) (fun i _ => n - (intOf i).toNat)
  case atStart => exact ⟨0, Nat.zero_le _, rfl, by simpa using HOW.out, HBC.out⟩
  case round =>
    obtain ⟨k, hk, rfl, hown, hb⟩ := hrel
    have HB := Lib.hid hb
    have HO := Lib.hid hown
    by_cases hlt : k < n
    · obtain ⟨x, hx⟩ : ∃ x, l[k]? = some x := ⟨_, List.getElem?_eq_getElem (by rw [← HN.out]; exact hlt)⟩
      obtain ⟨ad, hA, hadl, a0, a1⟩ := par_at (HT.out.keep (kept_below hb)) hx
      have hxl : (parS x).length ≤ 1000000000 := Nat.le_trans (pack_elem (ls := l.map parS) (k := k) (by simp [hx])) HSZ.out
      have HX := Lib.hid hx
      have HAD := Lib.hid hA
      rw [hA]
      have hb1 : Below wr.heap.size wr (wr.alloc (.cells #[sv x.1, sv x.2] 65)) := (Below.refl _ _).alloc (Nat.le_refl _) _
      have HCL := Lib.hid (param_any x _ (HE.out.below (HB.out.trans (hb1.mono HB.out.size))) hxl)
      have HBA := Lib.hid hb1
      have hik : (0 : Int) ≤ (k : Int) ∧ (k : Int) < (n : Int) := ⟨by omega, by omega⟩
      clear hA hx hxl hadl hb hb1 hown
      go_wp2_with fail
      refine HCL.out.mono ?_
      rintro e w1 ⟨rfl, hbq⟩
      have hb1 : Below wr.heap.size wr w1 := HBA.out.trans (hbq.mono HBA.out.size)
      have hown1 := HO.out.kept (grownOfB hb1 none) (ownNone _)
      have hc1 := hown1.cellAt k (by omega)
      have hf1 := hown1.frozenAt k
      have hlen1 := hown1.1
      obtain ⟨z, hz⟩ : ∃ z, w1.cell? ⟨w.heap.size, k, none⟩ = some z := ⟨_, hc1.trans (List.getElem?_eq_getElem (by rw [hlen1]; omega))⟩
      have HB1 := Lib.hid (HB.out.trans (hb1.mono HB.out.size))
      have HO1 := Lib.hid hown1
      clear hb1 hbq hown1 hc1 hlen1 HCL a0 a1
      go_wp2
      try rw [← HAD.out]
      go_roundw
      case rel =>
        refine ⟨k + 1, by omega, by go_num, ?_, HB1.out.setCell (p := ⟨w.heap.size, k, none⟩) (Nat.le_refl _) _⟩
        have := HO1.out.stored k (sv (parS x))
        rw [fill_step HM.out hlt (by simp [HX.out])] at this
        exact this.1
      case measure => simp [intOf]; omega
    · obtain rfl : k = n := by omega
      have hS : Strs wr wr.heap.size (some ⟨w.heap.size, 0, none⟩) k (l.map parS) := by
        refine strsOfOwn (c := k) (base := w.heap.size) ?_
        have h := HO.out
        rw [List.take_of_length_le (Nat.le_of_eq HM.out), Nat.sub_self, List.replicate_zero, List.append_nil] at h
        rw [List.map_map]
        exact h
      have HCL := Lib.hid (pack_any (some ⟨w.heap.size, 0, none⟩) k k wr.heap.size _ wr (HE.out.below hb) hS (Nat.le_refl _) HSZ.out hn9)
      clear hS hown hb
      go_wp2_with fail
      refine HCL.out.mono ?_
      rintro e w1 ⟨rfl, hb1⟩
      have HB1 := Lib.hid (HB.out.trans (hb1.mono HB.out.size))
      clear hb1
      go_wp2
      go_ret
      exact ⟨rfl, HB1.out⟩
set_option maxHeartbeats 1600000 in
set_option maxRecDepth 100000 in
theorem eachType_any (l : List Ty) (vs : List (Value × Value)) (A : Option Addr) (c : Nat) (w : World) (he : Env w) (hT : Tys w (Lt w.heap.size) A l vs) (hsz : (tysS l).length ≤ 4000000) :
    Calls Tryd.prog 29 #[.slice A l.length c, fnV 30] w fun e w' => e = .returned (sv (tysS l)) ∧ Below w.heap.size w w' := by
  obtain ⟨i0, hi, hz0, hz1, hz2⟩ := info_parts infoS
  obtain ⟨n, hn⟩ : ∃ n, n = l.length := ⟨_, rfl⟩
  have hn9 : n ≤ 1000000000 := by
    have := pack_count (l.map prn)
    rw [List.length_map] at this
    unfold tysS at hsz
    omega
  rw [← hn]
  obtain ⟨wc, hmk, hown, hgr⟩ := run_make_full (P := Tryd.prog) w w.heap.size 28 9 i0 _ 1 Tryd.underlying28 hi hz0 hz1 .i64 .i64 n (by rw [hz2]; omega) (by unfold maxLen; omega) (by omega)
  have hbc : Below w.heap.size w wc := ⟨hgr.os, hgr.tape, hgr.output, hgr.size, fun y hy => hgr.block y hy (by simp)⟩
  rw [madeS] at hown
  have HN := Lib.hid hn
  have HT := Lib.hid hT
  have HE := Lib.hid he
  have HSZ := Lib.hid hsz
  have HM : Hid ((l.map fun x => sv (prn x)).length = n) := Lib.hid (by rw [List.length_map, hn])
  have HBC := Lib.hid hbc
  have HOW := Lib.hid hown
  clear hn hT he hsz hbc hgr hown
  go_enter Tryd.func29, Tryd.ntmps29
  go_wp2_with fail
  clear hmk
  go_loopw [13] (fun i wr => ∃ k : Nat, k ≤ n ∧ i = .int .i64 k ∧ wr.ownsRow w.heap.size 9 1 (.slice (some ⟨w.heap.size, 0, none⟩) n n) n ((l.map fun x => sv (prn x)).take k ++ List.replicate (n - k) (sv [])) ∧ Below w.heap.size w wr) (fun i _ => n - (intOf i).toNat)
  case atStart => exact ⟨0, Nat.zero_le _, rfl, by simpa using HOW.out, HBC.out⟩
  case round =>
    obtain ⟨k, hk, rfl, hown, hb⟩ := hrel
    have HB := Lib.hid hb
    have HO := Lib.hid hown
    by_cases hlt : k < n
    · obtain ⟨x, hx⟩ : ∃ x, l[k]? = some x := ⟨_, List.getElem?_eq_getElem (by rw [← HN.out]; exact hlt)⟩
      obtain ⟨ad, yu, yv, hA, hadl, a0, a1, hty⟩ := (HT.out.now (Nat.le_refl _) hb).at_ hx
      obtain ⟨yu, yv, rfl, rfl⟩ := hty.shape
      have hxl : (prn x).length ≤ 4000000 := Nat.le_trans (pack_elem (ls := l.map prn) (k := k) (by simp [hx])) HSZ.out
      have HX := Lib.hid hx
      have HAD := Lib.hid hA
      rw [hA]
      have hb1 : Below wr.heap.size wr (wr.alloc (.cells #[sv yu, .slice yv.1 yv.2.1 yv.2.2] 31)) := (Below.refl _ _).alloc (Nat.le_refl _) _
      have HCL := Lib.hid (print_any x _ _ _ (hty.now (Nat.le_refl _) hb1) hxl)
      have HBA := Lib.hid hb1
      have hik : (0 : Int) ≤ (k : Int) ∧ (k : Int) < (n : Int) := ⟨by omega, by omega⟩
      clear hA hx hxl hadl hb hb1 hown hty
      go_wp2_with fail
      refine HCL.out.mono ?_
      rintro e w1 ⟨rfl, hbq⟩
      have hb1 : Below wr.heap.size wr w1 := HBA.out.trans (hbq.mono HBA.out.size)
      have hown1 := HO.out.kept (grownOfB hb1 none) (ownNone _)
      have hc1 := hown1.cellAt k (by omega)
      have hf1 := hown1.frozenAt k
      have hlen1 := hown1.1
      obtain ⟨z, hz⟩ : ∃ z, w1.cell? ⟨w.heap.size, k, none⟩ = some z := ⟨_, hc1.trans (List.getElem?_eq_getElem (by rw [hlen1]; omega))⟩
      have HB1 := Lib.hid (HB.out.trans (hb1.mono HB.out.size))
      have HO1 := Lib.hid hown1
      clear hb1 hbq hown1 hc1 hlen1 HCL a0 a1
      go_wp2
      try rw [← HAD.out]
      go_roundw
      case rel =>
        refine ⟨k + 1, by omega, by go_num, ?_, HB1.out.setCell (p := ⟨w.heap.size, k, none⟩) (Nat.le_refl _) _⟩
        have := HO1.out.stored k (sv (prn x))
        rw [fill_step HM.out hlt (by simp [HX.out])] at this
        exact this.1
      case measure => simp [intOf]; omega
    · obtain rfl : k = n := by omega
      have hS : Strs wr wr.heap.size (some ⟨w.heap.size, 0, none⟩) k (l.map prn) := by
        refine strsOfOwn (c := k) (base := w.heap.size) ?_
        have h := HO.out
        rw [List.take_of_length_le (Nat.le_of_eq HM.out), Nat.sub_self, List.replicate_zero, List.append_nil] at h
        rw [List.map_map]
        exact h
      have HCL := Lib.hid (pack_any (some ⟨w.heap.size, 0, none⟩) k k wr.heap.size _ wr (HE.out.below hb) hS (Nat.le_refl _) (Nat.le_trans HSZ.out (by decide)) hn9)
      clear hS hown hb
      go_wp2_with fail
      refine HCL.out.mono ?_
      rintro e w1 ⟨rfl, hb1⟩
      have HB1 := Lib.hid (HB.out.trans (hb1.mono HB.out.size))
      clear hb1
      go_wp2
      go_ret
      exact ⟨rfl, HB1.out⟩
theorem sg_parts (x : SgF) : (parsS x.params).length ≤ (sgS x).length ∧ (pack x.names).length ≤ (sgS x).length ∧ (tysS x.args).length ≤ (sgS x).length ∧ (prn x.result).length ≤ (sgS x).length :=
  ⟨pack_elem (ls := [Lib.itoa x.kind, parsS x.params, pack x.names, tysS x.args, prn x.result, x.trt]) (k := 1) rfl, pack_elem (ls := [Lib.itoa x.kind, parsS x.params, pack x.names, tysS x.args, prn x.result, x.trt]) (k := 2) rfl, pack_elem (ls := [Lib.itoa x.kind, parsS x.params, pack x.names, tysS x.args, prn x.result, x.trt]) (k := 3) rfl, pack_elem (ls := [Lib.itoa x.kind, parsS x.params, pack x.names, tysS x.args, prn x.result, x.trt]) (k := 4) rfl⟩
set_option maxHeartbeats 1600000 in
set_option maxRecDepth 100000 in
theorem fsig_any (x : SgF) (p : SgP) (w : World) (he : Env w) (hT : SgPs w (Lt w.heap.size) x p) (hf : I64f x.kind) (hsz : (sgS x).length ≤ 4000000) :
    Calls Tryd.prog 10 #[sgV x p] w fun e w' => e = .returned (sv (sgS x)) ∧ Below w.heap.size w w' := by
  obtain ⟨hs1, hs2, hs3, hs4⟩ := sg_parts x
  have HSQ : Hid (sgS x = pack [Lib.itoa x.kind, parsS x.params, pack x.names, tysS x.args, prn x.result, x.trt]) := Lib.hid rfl
  obtain ⟨xk, xp, xn, xa, xr, xt⟩ := x
  obtain ⟨pv, nv, av, yu, yv⟩ := p
  simp only at hs1 hs2 hs3 hs4 HSQ
  obtain ⟨PA, pc, h1, hP⟩ := hT.params
  obtain ⟨NA, nc, h2, hN⟩ := hT.names
  obtain ⟨TA, tc, vs, h3, hle, hmx, hTs⟩ := hT.args
  have hR := hT.result
  obtain ⟨yn, ya, h4, h5⟩ := hR.shape
  simp only at h1 h2 h3 h4 h5 hP hN hTs hf hle
  obtain ⟨pn, hpn⟩ : ∃ n, n = xp.length := ⟨_, rfl⟩
  obtain ⟨nn, hnn⟩ : ∃ n, n = xn.length := ⟨_, rfl⟩
  obtain ⟨tn, htn⟩ : ∃ n, n = xa.length := ⟨_, rfl⟩
  rw [← hpn] at h1
  rw [← hnn] at h2
  rw [← htn] at h3
  subst h1 h2 h3 h4 h5
  have hn9 : nn ≤ 1000000000 := by have := pack_count xn; omega
  have HPN := Lib.hid hpn
  have HNN := Lib.hid hnn
  have HTN := Lib.hid htn
  have HE := Lib.hid he
  have HSZ := Lib.hid hsz
  have HP := Lib.hid hP
  have HN := Lib.hid hN
  have HT := Lib.hid hTs
  have HR := Lib.hid hR
  have h1z := Nat.le_trans hs1 hsz
  have h2z := Nat.le_trans hs2 hsz
  have h3z := Nat.le_trans hs3 hsz
  have h4z := Nat.le_trans hs4 hsz
  clear hpn hnn htn he hsz hP hN hTs hR hT hs1 hs2 hs3 hs4
  obtain ⟨w0, hw0⟩ : ∃ w0, w0 = w.alloc (.cells #[iv xk, .slice PA pn pc, .slice NA nn nc, .slice TA tn tc, sv yn, .slice ya.1 ya.2.1 ya.2.2, sv xt] 33) := ⟨_, rfl⟩
  have hc0 : AtCells [(⟨w.heap.size, 0, none⟩, iv xk), (⟨w.heap.size, 1, none⟩, .slice PA pn pc), (⟨w.heap.size, 2, none⟩, .slice NA nn nc), (⟨w.heap.size, 3, none⟩, .slice TA tn tc), (⟨w.heap.size, 4, none⟩, sv yn), (⟨w.heap.size, 5, none⟩, .slice ya.1 ya.2.1 ya.2.2), (⟨w.heap.size, 6, none⟩, sv xt)] w0.drew := by
    rw [hw0]
    have hh := alloc1 w (.cells #[iv xk, .slice PA pn pc, .slice NA nn nc, .slice TA tn tc, sv yn, .slice ya.1 ya.2.1 ya.2.2, sv xt] 33)
    refine ⟨?_, ?_, ?_, ?_, ?_, ?_, ?_, trivial⟩ <;> exact (Lib.cell_of_heap hh _).trans rfl
  have HS0 := Lib.hid hc0
  have HB0 : Hid (Below w.heap.size w w0.drew) := Lib.hid (by rw [hw0]; exact (((Below.refl _ _).alloc (Nat.le_refl _) _).drew))
  clear hc0
  go_enter Tryd.func10, Tryd.ntmps10
  go_wp2_with fail
  rw [← hw0]
  clear hw0
  refine wp_region_mix (AtCells [(⟨w.heap.size, 0, none⟩, iv xk), (⟨w.heap.size, 1, none⟩, .slice PA pn pc), (⟨w.heap.size, 2, none⟩, .slice NA nn nc), (⟨w.heap.size, 3, none⟩, .slice TA tn tc), (⟨w.heap.size, 4, none⟩, sv yn), (⟨w.heap.size, 5, none⟩, .slice ya.1 ya.2.1 ya.2.2), (⟨w.heap.size, 6, none⟩, sv xt)]) [(true, 0), (true, 1), (true, 3), (true, 4), (true, 6), (true, 7), (true, 9), (true, 10), (true, 12), (true, 13), (true, 15), (true, 16), (false, 2), (false, 5), (false, 8), (false, 11), (false, 14), (false, 17), (false, 18)] [19] (by kernel_rfl) (by kernel_rfl) HS0.out ?ha
  case ha =>
  simp only [mixAt, List.filterMap_cons, List.filterMap_nil, List.getElem?_toArray, List.getElem?_cons_succ, List.getElem?_cons_zero, Option.map_some]
  refine wpMix_load ?vaa0 rfl (fun w' hS => ?yaa0) ?kaa0
  case yaa0 =>
    obtain ⟨g0, g1, g2, g3, g4, g5, g6, _⟩ := hS
    go_simp
    try rfl
  case kaa0 =>
  go_simp
  refine wpMix_load ?vaa1 rfl (fun w' hS => ?yaa1) ?kaa1
  case yaa1 =>
    obtain ⟨g0, g1, g2, g3, g4, g5, g6, _⟩ := hS
    go_simp
    try rfl
  case kaa1 =>
  go_simp
  refine wpMix_load ?vaa2 rfl (fun w' hS => ?yaa2) ?kaa2
  case yaa2 =>
    obtain ⟨g0, g1, g2, g3, g4, g5, g6, _⟩ := hS
    go_simp
    try rfl
  case kaa2 =>
  go_simp
  refine wpMix_load ?vaa3 rfl (fun w' hS => ?yaa3) ?kaa3
  case yaa3 =>
    obtain ⟨g0, g1, g2, g3, g4, g5, g6, _⟩ := hS
    go_simp
    try rfl
  case kaa3 =>
  go_simp
  refine wpMix_load ?vaa4 rfl (fun w' hS => ?yaa4) ?kaa4
  case yaa4 =>
    obtain ⟨g0, g1, g2, g3, g4, g5, g6, _⟩ := hS
    go_simp
    try rfl
  case kaa4 =>
  go_simp
  refine wpMix_load ?vaa5 rfl (fun w' hS => ?yaa5) ?kaa5
  case yaa5 =>
    obtain ⟨g0, g1, g2, g3, g4, g5, g6, _⟩ := hS
    go_simp
    try rfl
  case kaa5 =>
  go_simp
  refine wpMix_load ?vaa6 rfl (fun w' hS => ?yaa6) ?kaa6
  case yaa6 =>
    obtain ⟨g0, g1, g2, g3, g4, g5, g6, _⟩ := hS
    go_simp
    try rfl
  case kaa6 =>
  go_simp
  refine wpMix_load ?vaa7 rfl (fun w' hS => ?yaa7) ?kaa7
  case yaa7 =>
    obtain ⟨g0, g1, g2, g3, g4, g5, g6, _⟩ := hS
    go_simp
    try rfl
  case kaa7 =>
  go_simp
  refine wpMix_load ?vaa8 rfl (fun w' hS => ?yaa8) ?kaa8
  case yaa8 =>
    obtain ⟨g0, g1, g2, g3, g4, g5, g6, _⟩ := hS
    go_simp
    try rfl
  case kaa8 =>
  go_simp
  refine wpMix_load ?vaa9 rfl (fun w' hS => ?yaa9) ?kaa9
  case yaa9 =>
    obtain ⟨g0, g1, g2, g3, g4, g5, g6, _⟩ := hS
    go_simp
    try rfl
  case kaa9 =>
  go_simp
  refine wpMix_load ?vaa10 rfl (fun w' hS => ?yaa10) ?kaa10
  case yaa10 =>
    obtain ⟨g0, g1, g2, g3, g4, g5, g6, _⟩ := hS
    go_simp
    try rfl
  case kaa10 =>
  go_simp
  refine wpMix_load ?vaa11 rfl (fun w' hS => ?yaa11) ?kaa11
  case yaa11 =>
    obtain ⟨g0, g1, g2, g3, g4, g5, g6, _⟩ := hS
    go_simp
    try rfl
  case kaa11 =>
  go_simp
  refine wpMix_keep rfl ?_
  go_wp2_with fail
  refine (itoa_b xk _ hf.1 hf.2 (HE.out.below HB0.out)).mono ?_
  rintro e w1 ⟨rfl, hb⟩
  have HS1 := Lib.hid (HS0.out.below hb)
  have HB1 := Lib.hid (HB0.out.trans (hb.mono HB0.out.size))
  refine ⟨HS1.out, ?_⟩
  clear hb HS0
  refine wpMix_keep rfl ?_
  go_wp2_with fail
  rw [HPN.out]
  refine (eachParam_any xp PA pc w1 (HE.out.below HB1.out) ((HP.out.keep (kept_below HB1.out)).more fun _ hy => Nat.lt_of_lt_of_le hy HB1.out.size) (Nat.le_trans h1z (by decide))).mono ?_
  rintro e w2 ⟨rfl, hb⟩
  rw [← HPN.out]
  have HS2 := Lib.hid (HS1.out.below hb)
  have HB2 := Lib.hid (HB1.out.trans (hb.mono HB1.out.size))
  refine ⟨HS2.out, ?_⟩
  clear hb HS1
  refine wpMix_keep rfl ?_
  go_wp2_with fail
  refine (pack_any NA nn nc w2.heap.size xn w2 (HE.out.below HB2.out) ⟨HNN.out.symm, (HN.out.keep (kept_below HB2.out)).more fun _ hy => Nat.lt_of_lt_of_le hy HB2.out.size⟩ (Nat.le_refl _) (Nat.le_trans h2z (by decide)) hn9).mono ?_
  rintro e w3 ⟨rfl, hb⟩
  have HS3 := Lib.hid (HS2.out.below hb)
  have HB3 := Lib.hid (HB2.out.trans (hb.mono HB2.out.size))
  refine ⟨HS3.out, ?_⟩
  clear hb HS2
  refine wpMix_keep rfl ?_
  go_wp2_with fail
  rw [HTN.out]
  refine (eachType_any xa vs TA tc w3 (HE.out.below HB3.out) ((HT.out.keep (kept_below HB3.out)).more fun _ hy => Nat.lt_of_lt_of_le hy HB3.out.size) h3z).mono ?_
  rintro e w4 ⟨rfl, hb⟩
  rw [← HTN.out]
  have HS4 := Lib.hid (HS3.out.below hb)
  have HB4 := Lib.hid (HB3.out.trans (hb.mono HB3.out.size))
  refine ⟨HS4.out, ?_⟩
  clear hb HS3
  refine wpMix_keep rfl ?_
  go_wp2_with fail
  refine (print_any xr _ _ w4 ((HR.out.keep (kept_below HB4.out)).more fun _ hy => Nat.lt_of_lt_of_le hy HB4.out.size) h4z).mono ?_
  rintro e w5 ⟨rfl, hb⟩
  have HS5 := Lib.hid (HS4.out.below hb)
  have HB5 := Lib.hid (HB4.out.trans (hb.mono HB4.out.size))
  refine ⟨HS5.out, ?_⟩
  clear hb HS4
  obtain ⟨a1, ha1⟩ : ∃ y, y = Lib.itoa xk := ⟨_, rfl⟩
  obtain ⟨a2, ha2⟩ : ∃ y, y = parsS xp := ⟨_, rfl⟩
  obtain ⟨a3, ha3⟩ : ∃ y, y = pack xn := ⟨_, rfl⟩
  obtain ⟨a4, ha4⟩ : ∃ y, y = tysS xa := ⟨_, rfl⟩
  obtain ⟨a5, ha5⟩ : ∃ y, y = prn xr := ⟨_, rfl⟩
  have HSQ2 : Hid (sgS ⟨xk, xp, xn, xa, xr, xt⟩ = pack [a1, a2, a3, a4, a5, xt]) := Lib.hid (by rw [ha1, ha2, ha3, ha4, ha5]; rfl)
  rw [← ha1, ← ha2, ← ha3, ← ha4, ← ha5]
  clear ha1 ha2 ha3 ha4 ha5
  have hSZ : (pack [a1, a2, a3, a4, a5, xt]).length ≤ 1000000000 := by rw [← HSQ2.out]; exact Nat.le_trans HSZ.out (by decide)
  refine wpMix_keep rfl ?_
  go_wp2_with fail
  have HB6 := Lib.hid (HB5.out.alloc HB5.out.size (.cells #[sv a1, sv a2, sv a3, sv a4, sv a5, sv xt] 9))
  have HS6 := Lib.hid (HS5.out.below ((Below.refl _ w5).alloc (Nat.le_refl _) (.cells #[sv a1, sv a2, sv a3, sv a4, sv a5, sv xt] 9)))
  refine ⟨HS6.out, ?_⟩
  have hS : Strs (w5.alloc (.cells #[sv a1, sv a2, sv a3, sv a4, sv a5, sv xt] 9)) (w5.heap.size + 1) (some ⟨w5.heap.size, 0, none⟩) 6 [a1, a2, a3, a4, a5, xt] := strsNew w5 9 [a1, a2, a3, a4, a5, xt]
  refine wpMix_keep rfl ?_
  go_wp2_with fail
  refine (pack_any _ 6 6 _ _ _ (HE.out.below HB6.out) hS (by simp) hSZ (by decide)).mono ?_
  rintro e w7 ⟨rfl, hb7⟩
  refine ⟨HS6.out.below hb7, ?_⟩
  have HB7 := Lib.hid (HB6.out.trans (hb7.mono HB6.out.size))
  clear hb7 hS HS6 HS5
  refine wpMix_nil ?_
  simp only [opsAt, List.filterMap_cons, List.filterMap_nil, List.getElem?_toArray, List.getElem?_cons_succ, List.getElem?_cons_zero]
  go_wp2
  refine NoPanic.normal ?_
  go_wp2
  go_ret
  rw [HSQ2.out]
  exact ⟨rfl, HB7.out⟩
end Go.Proofs.YtkggmckfdkpldaaDoor
