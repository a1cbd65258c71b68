/-
  The walk of signature.args.
  Conditions: the argument reads as a tree.
  The walk of signature.params.
  Conditions: the argument reads as a tree.
-/
import Derived.Test.YtiijlecidepneaaArgSt
import Derived.Test.YtiijlecidepneaaBmix
import Derived.Test.YtiijlecidepneaaBrow
namespace Go.Proofs.Ytiijlecidepneaa
section
open Go.RowKit
set_option maxHeartbeats 4000000 in
set_option maxRecDepth 100000 in
theorem args_any (t : Tr) (A : Option Addr) (c : Nat) (ps : List (Tr × Value)) (w : World) (hz : ps.length ≤ 3518437208883) (hT : Trs w (Lt w.heap.size) A ps) : Calls Try.prog 51 #[.agg #[.int .i64 t.kind, sv t.text, .int .i64 t.at_, .slice A ps.length c]] w (ArgLRes ps w) := by
  obtain ⟨m, hm⟩ : ∃ m, m = ps.length := ⟨_, rfl⟩
  rw [← hm] at hz ⊢
  obtain ⟨tk, htk⟩ : ∃ k, k = t.kind := ⟨_, rfl⟩
  obtain ⟨tx, htx⟩ : ∃ k, k = t.text := ⟨_, rfl⟩
  obtain ⟨ta, hta⟩ : ∃ k, k = t.at_ := ⟨_, rfl⟩
  rw [← htk, ← htx, ← hta]
  have HM := Lib.hid hm
  clear hm htk htx hta
  obtain ⟨i0, hi, hz0, hz1, hz2⟩ := info_parts infoT
  obtain ⟨i5, hj, hy0, hy1, hy2⟩ := info_parts infoS
  obtain ⟨w0, hw0⟩ : ∃ w0, w0 = w.alloc (.cells #[.int .i64 tk, sv tx, .int .i64 ta, .slice A m c] 25) := ⟨_, rfl⟩
  have hb0 : Below w.heap.size w w0 := by rw [hw0]; exact (Below.refl _ _).alloc (Nat.le_refl _) _
  have HW0 := Lib.hid hw0
  have HB0 := Lib.hid hb0
  clear hw0 hb0
  go_enter Try.func51, Try.ntmps51
  go_wp2_with fail
  rw [← HW0.out]
  go_loopw [11, 4, 5] (fun i nv tv wr => ∃ (k : Nat) (vs : List (Value × Value)), k ≤ m ∧ i = .int .i64 k ∧ ArgSt w.heap.size (argN (ps.take k)) (argT (ps.take k)) nv tv vs wr ∧ Below w.heap.size w wr) (fun i _ _ _ => m - (intOf i).toNat)
  case atStart => exact ⟨0, [], Nat.zero_le _, rfl, ArgSt.none _ _, HB0.out⟩
  case round =>
    obtain ⟨k, vs, hk, rfl, hS, hb⟩ := hrel
    obtain ⟨wq, hwq⟩ : ∃ wq, wq = wr := ⟨_, rfl⟩
    rw [← hwq] at hS hb ⊢
    clear hwq
    obtain ⟨NA, nc, rfl, _⟩ := own_slice hS.names
    obtain ⟨TA, tc, rfl, _⟩ := own_slice hS.own
    have hnk : (argN (ps.take k)).length ≤ k := by unfold argN; rw [List.length_map]; exact argK_len ps k
    have htk : (argT (ps.take k)).length ≤ k := by unfold argT; rw [List.length_map]; exact argK_len ps k
    obtain ⟨n1, hn1⟩ : ∃ n, n = (argN (ps.take k)).length := ⟨_, rfl⟩
    obtain ⟨n2, hn2⟩ : ∃ n, n = (argT (ps.take k)).length := ⟨_, rfl⟩
    have hlnt : n1 = n2 := by rw [hn1, hn2]; unfold argN argT; rw [List.length_map, List.length_map]
    rw [← hn1] at hS hnk ⊢
    rw [← hn2] at hS htk ⊢
    have hbw := hb.size
    by_cases hlt : k < m
    · obtain ⟨q, hq⟩ : ∃ q, ps[k]? = some q := ⟨_, List.getElem?_eq_getElem (by rw [← HM.out]; exact hlt)⟩
      have hTr := hT.below hb
      obtain ⟨ad, hA, _, a0, a1, a2, a3⟩ := tr_at hTr.row hq
      have hqi := hTr.each k q hq
      have hyes := fun h => argK_yes hq h
      have hno := fun h => argK_no hq h
      obtain ⟨QA, qc, qs, hqv, _⟩ := hqi.open_
      obtain ⟨⟨qk, qx, qa, qks⟩, qv⟩ := q
      simp only [Tr.kind, Tr.text, Tr.at_] at a0 a1 a2 a3 hqv hqi hyes hno
      subst hqv
      obtain ⟨l, hl'⟩ : ∃ l, l = qs.length := ⟨_, rfl⟩
      rw [← hl'] at a3 hqi hyes
      have hik : (0 : Int) ≤ (k : Int) ∧ (k : Int) < (m : Int) := ⟨by omega, by omega⟩
      obtain ⟨wa, hwa⟩ : ∃ wa, wa = wq.alloc (.cells #[.int .i64 qk, sv qx, .int .i64 qa, .slice QA l qc] 25) := ⟨_, rfl⟩
      have hba : Below wq.heap.size wq wa := by rw [hwa]; exact (Below.refl _ _).alloc (Nat.le_refl _) _
      have hxa : wa.heap[wq.heap.size]? = some (.cells #[.int .i64 qk, sv qx, .int .i64 qa, .slice QA l qc] 25 (0, 0)) := by rw [hwa]; exact alloc1 _ _
      have hsa : wq.heap.size < wa.heap.size := by rw [hwa]; simp
      have HS := Lib.hid (hS.below hba)
      have HQI := Lib.hid (hqi.under hba)
      have hnlq := hS.names.lt
      have htlq := hS.own.lt
      have hqw : TrIs w (Lt w.heap.size) (.mk qk qx qa qks) (.slice QA l qc) := by rw [hl']; exact hT.each k _ hq
      have HQW := Lib.hid fun w' (hb : Below w.heap.size w w') => hqw.under hb
      have HBA := Lib.hid (hb.trans (hba.mono hb.size))
      have HXA := Lib.hid hxa
      have HWA := Lib.hid hwa
      have HYES := Lib.hid hyes
      have HNO := Lib.hid hno
      have HN12 := Lib.hid (And.intro hn1 hn2)
      rw [hA]
      have HAD := Lib.hid hA
      have hqx : qx.length ≤ 140737488355328 := by cases hqi; assumption
      clear hqw hq hTr hA hqi hyes hno hl' hwa hba hxa hb hS hn1 hn2 hlnt
      by_cases hkd : qk = 13
      · subst hkd
        go_wp2_with fail
        rw [← HWA.out]
        clear a0 a1 a2 a3
        have HC : Hid (∀ u, Below wa.heap.size wa u → AtCells [(⟨wq.heap.size, 0, none⟩, .int .i64 13), (⟨wq.heap.size, 1, none⟩, sv qx), (⟨wq.heap.size, 2, none⟩, .int .i64 qa), (⟨wq.heap.size, 3, none⟩, .slice QA l qc)] u) := Lib.hid fun u hu => by
          have hxu := (hu.block _ (lt_of_heap HXA.out)).trans HXA.out
          exact ⟨(Lib.cell_of_heap hxu 0).trans rfl, (Lib.cell_of_heap hxu 1).trans rfl, (Lib.cell_of_heap hxu 2).trans rfl, (Lib.cell_of_heap hxu 3).trans rfl, trivial⟩
        refine wp_region_mix (AtCells [(⟨wq.heap.size, 0, none⟩, .int .i64 13), (⟨wq.heap.size, 1, none⟩, sv qx), (⟨wq.heap.size, 2, none⟩, .int .i64 qa), (⟨wq.heap.size, 3, none⟩, .slice QA l qc)]) [(true, 0), (true, 1), (true, 2), (true, 5), (true, 6), (false, 3), (false, 4), (false, 7), (false, 8), (false, 9), (false, 10)] [11, 12] (by kernel_rfl) (by kernel_rfl) ?sm ?hm
        case sm => exact HC.out _ (Below.refl _ wa).drew
        case hm =>
        simp only [mixAt, List.filterMap_cons, List.filterMap_nil, List.getElem?_toArray, List.getElem?_cons_succ, List.getElem?_cons_zero, Option.map_some]
        refine wpMix_load ?vma0 rfl (fun w' hS => ?yma0) ?kma0
        case yma0 =>
          obtain ⟨g0, g1, g2, g3, _⟩ := hS
          go_simp
          try rfl
        case kma0 =>
        go_simp
        refine wpMix_load ?vma1 rfl (fun w' hS => ?yma1) ?kma1
        case yma1 =>
          obtain ⟨g0, g1, g2, g3, _⟩ := hS
          go_simp
          try rfl
        case kma1 =>
        go_simp
        refine wpMix_load ?vma2 rfl (fun w' hS => ?yma2) ?kma2
        case yma2 =>
          obtain ⟨g0, g1, g2, g3, _⟩ := hS
          go_simp
          try rfl
        case kma2 =>
        go_simp
        refine wpMix_load ?vmb5 rfl (fun w' hS => ?ymb5) ?kmb5
        case ymb5 =>
          obtain ⟨g0, g1, g2, g3, _⟩ := hS
          go_simp
          try rfl
        case kmb5 =>
        go_simp
        refine wpMix_load ?vmb6 rfl (fun w' hS => ?ymb6) ?kmb6
        case ymb6 =>
          obtain ⟨g0, g1, g2, g3, _⟩ := hS
          go_simp
          try rfl
        case kmb6 =>
        go_simp
        refine wpMix_keep rfl ?_
        go_simp
        obtain ⟨w1, hw1⟩ : ∃ w1, w1 = (wa.alloc (.cells #[sv qx] 9)).drew := ⟨_, rfl⟩
        have hb1 : Below wa.heap.size wa w1 := by rw [hw1]; exact ((Below.refl _ _).alloc (Nat.le_refl _) _).drew
        have hblk : w1.heap[wa.heap.size]? = some (.cells #[sv qx] 9 (0, 0)) := by rw [hw1]; exact alloc1 wa _
        rw [← hw1]
        refine ⟨HC.out _ hb1, ?_⟩
        have hS1 := HS.out.below hb1
        have hnl := hS1.names
        have hx1 := (hb1.block _ (lt_of_heap HXA.out)).trans HXA.out
        have hs1 := hb1.size
        have HC' : Hid (∀ u : World, u.heap[wq.heap.size]? = some (.cells #[.int .i64 13, sv qx, .int .i64 qa, .slice QA l qc] 25 (0, 0)) → AtCells [(⟨wq.heap.size, 0, none⟩, .int .i64 13), (⟨wq.heap.size, 1, none⟩, sv qx), (⟨wq.heap.size, 2, none⟩, .int .i64 qa), (⟨wq.heap.size, 3, none⟩, .slice QA l qc)] u) := Lib.hid fun u hxu => ⟨(Lib.cell_of_heap hxu 0).trans rfl, (Lib.cell_of_heap hxu 1).trans rfl, (Lib.cell_of_heap hxu 2).trans rfl, (Lib.cell_of_heap hxu 3).trans rfl, trivial⟩
        have HB1 := Lib.hid hb1
        have hNQ : ∀ g, (Value.slice NA n1 nc).ownBlock = some g → w.heap.size ≤ g ∧ g < wq.heap.size := hnlq
        have hTQ : ∀ g, (Value.slice TA n2 tc).ownBlock = some g → w.heap.size ≤ g ∧ g < wq.heap.size := htlq
        rw [← HN12.out.1] at hnl
        clear hw1 hb1 HC
        refine wpMix_keep rfl ?_
        refine wp_append_row _ _ 37 rfl w.heap.size 9 i5 _ 1 16 Try.underlying37 hj hy0 hy1 hy2 rfl (by omega) (.slice NA n1 nc) n1 ((argN (ps.take k)).map sv) rfl hnl (fun y => y = wa.heap.size) (some ⟨wa.heap.size, 0, none⟩) 1 1 [sv qx] rfl rfl (row_heap hblk rfl rfl) (by simp [Value.oneCell']) (by unfold maxLen; omega) (by omega) (by omega) ?_
        intro v' w2 hown2 hg2 hat2
        have hk2 : Kp (fun y => (Value.slice NA n1 nc).ownBlock = some y) w1 w2 := (Kp.refl _ _).grown hg2 fun r hr _ => hr
        have hx2 := hk2.heap hx1 fun e => by have := (hNQ _ e).2; omega
        have hS2 := hS1.name (x := qx) (nv' := v') (by rw [← HN12.out.1]; exact hown2) hg2 hat2
        have hs2 := hk2.size
        have hv2 : ∃ (NB : Option Addr) (nd : Nat), v' = .slice NB (n1 + 1) nd := by
          obtain ⟨A', c', e, _⟩ := own_slice hown2
          exact ⟨A', c', e⟩
        obtain ⟨NB, nd, rfl⟩ := hv2
        have hqi2 : TrIs w2 (Lt w2.heap.size) (.mk 13 qx qa qks) (.slice QA l qc) := HQW.out _ (kp_below (HBA.out.trans (HB1.out.mono HBA.out.size)) hk2 fun y e => (hNQ y e).1)
        have hbw2 : Below w.heap.size w w2 := kp_below (HBA.out.trans (HB1.out.mono HBA.out.size)) hk2 fun y e => (hNQ y e).1
        have HKD := Lib.hid (kid_any (.mk 13 qx qa qks, .slice QA l qc) 0 w2 (by omega) hqi2)
        have HX2 := Lib.hid hx2
        have HS2 := Lib.hid hS2
        have HBW2 := Lib.hid hbw2
        have hlt2 : ∀ g, (Value.slice NB (n1 + 1) nd).ownBlock = some g → g < w2.heap.size := fun g hg => (hown2.lt g hg).2
        have HLT2 := Lib.hid hlt2
        clear hblk hS1 hnl hx1 hown2 hg2 hat2 hk2 hx2 hS2 hqi2 hbw2 hlt2
        refine ⟨HC'.out _ HX2.out, ?_⟩
        refine wpMix_keep rfl ?_
        go_wp2_with fail
        refine HKD.out.mono ?_
        rintro e w4 ⟨⟨kt, kv⟩, rfl, hkt, hki, hb4⟩
        simp only at hkt hki
        subst hkt
        have hx4 := (hb4.block _ (lt_of_heap HX2.out)).trans HX2.out
        have HX4 := Lib.hid hx4
        have HB4 := Lib.hid hb4
        have HTYC := Lib.hid (typ_any _ kv w4 hki)
        obtain ⟨KA, kc, kq, rfl, _⟩ := hki.open_
        have hs4 := hb4.size
        clear hki hb4 hx4 HKD
        refine ⟨HC'.out _ HX4.out, ?_⟩
        refine wpMix_keep rfl ?_
        go_wp2_with fail
        refine HTYC.out.mono ?_
        rintro e w5 ⟨u1, v1, rfl, hT1, hb5⟩
        obtain ⟨u1, v1, rfl, rfl⟩ := hT1.shape
        have hx5 := (hb5.block _ (lt_of_heap HX4.out)).trans HX4.out
        have hb25 := HB4.out.trans (hb5.mono HB4.out.size)
        have hs5 := hb5.size
        have HX5 := Lib.hid hx5
        have HB25 := Lib.hid hb25
        have HT1 := Lib.hid hT1
        clear hb5 hx5 hb25 hT1 HTYC
        refine ⟨HC'.out _ HX5.out, ?_⟩
        refine wpMix_keep rfl ?_
        go_simp
        obtain ⟨w6, hw6⟩ : ∃ w6, w6 = w5.alloc (.cells #[sv u1, .slice v1.1 v1.2.1 v1.2.2] 35) := ⟨_, rfl⟩
        have hb6 : Below w5.heap.size w5 w6 := by rw [hw6]; exact (Below.refl _ _).alloc (Nat.le_refl _) _
        have hblk6 : w6.heap[w5.heap.size]? = some (.cells #[sv u1, .slice v1.1 v1.2.1 v1.2.2] 35 (0, 0)) := by rw [hw6]; exact alloc1 _ _
        rw [← hw6]
        have hx6 := (hb6.block _ (lt_of_heap HX5.out)).trans HX5.out
        refine ⟨HC'.out _ hx6, ?_⟩
        have hb26 := HB25.out.trans (hb6.mono HB25.out.size)
        have hS6 := HS2.out.below hb26
        have hown6 := hS6.own
        rw [← HN12.out.2] at hown6
        have hs6 := hb6.size
        have hT6 := HT1.out.keep (S := Fr w4.heap.size w5.heap.size) ((kept_below hb6).sub fun y hy => hy.2)
        have hbw6 := HBW2.out.trans (hb26.mono HBW2.out.size)
        refine wpMix_keep rfl ?_
        refine wp_append_row _ _ 33 rfl w.heap.size 35 i0 _ 2 40 Try.underlying33 hi hz0 hz1 hz2 rfl (by omega) (.slice TA n2 tc) n2 (flat2 vs) rfl hown6 (fun y => y = w5.heap.size) (some ⟨w5.heap.size, 0, none⟩) 1 1 [sv u1, .slice v1.1 v1.2.1 v1.2.2] rfl rfl (row_heap hblk6 rfl rfl) (by simp [Value.oneCell']) (by unfold maxLen; omega) (by omega) (by omega) ?_
        intro v' w7 hown7 hg7 hat7
        have hk7 : Kp (fun y => (Value.slice TA n2 tc).ownBlock = some y) w6 w7 := (Kp.refl _ _).grown hg7 fun r hr _ => hr
        have hx7 := hk7.heap hx6 fun e => by have := (hTQ _ e).2; omega
        have hS7 := hS6.typ (t := tyOf (kidT (.mk 13 qx qa qks) 0)) (u := sv u1) (v := .slice v1.1 v1.2.1 v1.2.2) (tv' := v') (hT6.more fun y hy => ⟨by have := hy.1; omega, by have := hy.2; omega, fun e => by have := (hTQ y e.symm).2; have := hy.1; omega, fun e => by have := HLT2.out y e.symm; have := hy.1; omega⟩) (by rw [← HN12.out.2]; exact hown7) hg7 hat7
        have hbw7 : Below w.heap.size w w7 := kp_below hbw6 hk7 fun y e => (hTQ y e).1
        have hv7 : ∃ (TB : Option Addr) (td : Nat), v' = .slice TB (n2 + 1) td := by
          obtain ⟨A', c', e, _⟩ := own_slice hown7
          exact ⟨A', c', e⟩
        obtain ⟨TB, td, rfl⟩ := hv7
        have hS8 : ArgSt w.heap.size (argN (ps.take (k + 1))) (argT (ps.take (k + 1))) (.slice NB (n1 + 1) nd) (.slice TB (n2 + 1) td) (vs ++ [(sv u1, .slice v1.1 v1.2.1 v1.2.2)]) w7 := by
          have e1 : argN (ps.take (k + 1)) = argN (ps.take k) ++ [qx] := by unfold argN; rw [HYES.out (by trivial), List.map_append]; rfl
          have e2 : argT (ps.take (k + 1)) = argT (ps.take k) ++ [tyOf (kidT (.mk 13 qx qa qks) 0)] := by unfold argT; rw [HYES.out (by trivial), List.map_append]; rfl
          rw [e1, e2]
          exact hS7
        have HS8 := Lib.hid hS8
        have HBW7 := Lib.hid hbw7
        clear hw6 hb6 hblk6 hb26 hS6 hown6 hT6 hbw6 hown7 hg7 hat7 hk7 hS7 hbw7 hS8 hx6
        refine ⟨HC'.out _ hx7, ?_⟩
        refine wpMix_nil ?_
        clear hx7
        simp only [opsAt, List.filterMap_cons, List.filterMap_nil, List.getElem?_toArray, List.getElem?_cons_succ, List.getElem?_cons_zero]
        go_wp2
        refine NoPanic.normal ?_
        go_wp2_with fail
        try rw [← HAD.out]
        first | go_roundw | refine ⟨?rel, ?measure⟩
        case rel => exact ⟨k + 1, _, by omega, by go_num, HS8.out, HBW7.out⟩
        case measure => simp [intOf]; omega
      · have hq1 : (qk == 13) = false := by simp [hkd]
        have HKD := Lib.hid hkd
        clear hkd
        go_wp2_with fail
        rw [← HWA.out]
        try rw [← HAD.out]
        first | go_roundw | refine ⟨?rel, ?measure⟩
        case rel =>
          refine ⟨k + 1, vs, by omega, by go_num, ?_, HBA.out⟩
          have e1 : argN (ps.take (k + 1)) = argN (ps.take k) := by unfold argN; rw [HNO.out HKD.out]
          have e2 : argT (ps.take (k + 1)) = argT (ps.take k) := by unfold argT; rw [HNO.out HKD.out]
          rw [e1, e2]
          exact HS.out
        case measure => simp [intOf]; omega
    · obtain rfl : k = m := by omega
      have hfin : ps.take k = ps := List.take_of_length_le (by rw [← HM.out]; exact Nat.le_refl _)
      rw [hfin] at hS
      have HRES : Hid (ArgLRes ps w (.returned (.tuple #[.slice NA n1 nc, .slice TA n2 tc])) wq) := Lib.hid ⟨_, _, vs, rfl, hS, hb⟩
      clear hS hb hlt hfin hn1 hn2 hlnt hnk htk
      go_wp2
      go_ret2
      exact HRES.out
end

section
open Go.RowKit
/-- The bound of a type parameter. -/
def bndOf (t : Tr) : List UInt8 := if (kidT t 0).kind = 22 then (kidT t 0).text else []
def prmOf (ps : List (Tr × Value)) : List (List UInt8 × List UInt8) := (ps.filter fun p => decide (p.1.kind = 11)).map fun p => (p.1.text, bndOf p.1)
def prC2 (p : List UInt8 × List UInt8) : List Value := [sv p.1, sv p.2]
theorem prC2_len (p : List UInt8 × List UInt8) : (prC2 p).length = 2 := rfl
theorem prC2_one (p : List UInt8 × List UInt8) : ∀ v ∈ prC2 p, v.oneCell' = true := fun v hv => by
  simp only [prC2, List.mem_cons, List.not_mem_nil, or_false] at hv
  rcases hv with rfl | rfl <;> rfl
theorem prmOf_yes {ps : List (Tr × Value)} {k : Nat} {q : Tr × Value} (h : ps[k]? = some q) (hk : q.1.kind = 11) : prmOf (ps.take (k + 1)) = prmOf (ps.take k) ++ [(q.1.text, bndOf q.1)] := by
  unfold prmOf
  rw [List.take_add_one, h, List.filter_append, List.map_append]
  simp [hk]
theorem prmOf_no {ps : List (Tr × Value)} {k : Nat} {q : Tr × Value} (h : ps[k]? = some q) (hk : ¬ q.1.kind = 11) : prmOf (ps.take (k + 1)) = prmOf (ps.take k) := by
  unfold prmOf
  rw [List.take_add_one, h, List.filter_append, List.map_append]
  simp [hk]
theorem prmOf_len (ps : List (Tr × Value)) (k : Nat) : (prmOf (ps.take k)).length ≤ k := by
  unfold prmOf
  rw [List.length_map]
  exact Nat.le_trans (List.length_filter_le _ _) (List.length_take_le _ _)
def PrmRes (ps : List (Tr × Value)) (w : World) (e : Ending) (w' : World) : Prop := ∃ v, e = .returned v ∧ w'.ownsRow w.heap.size 49 2 v (prmOf ps).length (flt prC2 (prmOf ps)) ∧ Below w.heap.size w w'
theorem infoPrm : (Try.prog.info? 49).map (fun i => (i.zero, i.size, i.bytes)) = some (some (.agg #[.string ⟨#[]⟩, .string ⟨#[]⟩]), 2, 32) := by kernel_rfl
set_option maxHeartbeats 4000000 in
set_option maxRecDepth 100000 in
theorem params_any (t : Tr) (A : Option Addr) (c : Nat) (ps : List (Tr × Value)) (w : World) (hz : ps.length ≤ 3518437208883) (hT : Trs w (Lt w.heap.size) A ps) : Calls Try.prog 52 #[.agg #[.int .i64 t.kind, sv t.text, .int .i64 t.at_, .slice A ps.length c]] w (PrmRes ps w) := by
  obtain ⟨m, hm⟩ : ∃ m, m = ps.length := ⟨_, rfl⟩
  rw [← hm] at hz ⊢
  obtain ⟨tk, htk⟩ : ∃ k, k = t.kind := ⟨_, rfl⟩
  obtain ⟨tx, htx⟩ : ∃ k, k = t.text := ⟨_, rfl⟩
  obtain ⟨ta, hta⟩ : ∃ k, k = t.at_ := ⟨_, rfl⟩
  rw [← htk, ← htx, ← hta]
  have HM := Lib.hid hm
  clear hm htk htx hta
  obtain ⟨i0, hi, hz0, hz1, hz2⟩ := info_parts infoPrm
  obtain ⟨w0, hw0⟩ : ∃ w0, w0 = w.alloc (.cells #[.int .i64 tk, sv tx, .int .i64 ta, .slice A m c] 25) := ⟨_, rfl⟩
  have hb0 : Below w.heap.size w w0 := by rw [hw0]; exact (Below.refl _ _).alloc (Nat.le_refl _) _
  have HW0 := Lib.hid hw0
  have HB0 := Lib.hid hb0
  clear hw0 hb0
  go_enter Try.func52, Try.ntmps52
  go_wp2_with fail
  rw [← HW0.out]
  go_loopw [11, 3] (fun i lv wr => ∃ k : Nat, k ≤ m ∧ i = .int .i64 k ∧ wr.ownsRow w.heap.size 49 2 lv (prmOf (ps.take k)).length (flt prC2 (prmOf (ps.take k))) ∧ Below w.heap.size w wr) (fun i _ _ => m - (intOf i).toNat)
  case atStart => exact ⟨0, Nat.zero_le _, rfl, World.ownsRow_nil _ _ _ _, HB0.out⟩
  case round =>
    obtain ⟨k, hk, rfl, hS, hb⟩ := hrel
    obtain ⟨wq, hwq⟩ : ∃ wq, wq = wr := ⟨_, rfl⟩
    rw [← hwq] at hS hb ⊢
    clear hwq
    obtain ⟨NA, nc, rfl, _⟩ := own_slice hS
    have hnk := prmOf_len ps k
    obtain ⟨n1, hn1⟩ : ∃ n, n = (prmOf (ps.take k)).length := ⟨_, rfl⟩
    rw [← hn1] at hS hnk ⊢
    have hbw := hb.size
    by_cases hlt : k < m
    · obtain ⟨q, hq⟩ : ∃ q, ps[k]? = some q := ⟨_, List.getElem?_eq_getElem (by rw [← HM.out]; exact hlt)⟩
      have hTr := hT.below hb
      obtain ⟨ad, hA, _, a0, a1, a2, a3⟩ := tr_at hTr.row hq
      have hqi := hTr.each k q hq
      have hyes := fun h => prmOf_yes hq h
      have hno := fun h => prmOf_no hq h
      obtain ⟨QA, qc, qs, hqv, _⟩ := hqi.open_
      obtain ⟨⟨qk, qx, qa, qks⟩, qv⟩ := q
      simp only [Tr.kind, Tr.text, Tr.at_] at a0 a1 a2 a3 hqv hqi hyes hno
      subst hqv
      obtain ⟨l, hl'⟩ : ∃ l, l = qs.length := ⟨_, rfl⟩
      rw [← hl'] at a3 hqi
      have hik : (0 : Int) ≤ (k : Int) ∧ (k : Int) < (m : Int) := ⟨by omega, by omega⟩
      obtain ⟨wa, hwa⟩ : ∃ wa, wa = wq.alloc (.cells #[.int .i64 qk, sv qx, .int .i64 qa, .slice QA l qc] 25) := ⟨_, rfl⟩
      have hba : Below wq.heap.size wq wa := by rw [hwa]; exact (Below.refl _ _).alloc (Nat.le_refl _) _
      have hsa : wa.heap.size = wq.heap.size + 1 := by rw [hwa]; simp
      have HS := Lib.hid hS
      have HBQ := Lib.hid hb
      have HQI := Lib.hid hqi
      have HBA := Lib.hid hba
      have HWA := Lib.hid hwa
      have HYES := Lib.hid hyes
      have HNO := Lib.hid hno
      have HN1 := Lib.hid hn1
      rw [hA]
      have HAD := Lib.hid hA
      clear hq hTr hA hqi hyes hno hl' hwa hba hb hS hn1
      by_cases hkd : qk = 11
      · subst hkd
        obtain ⟨wb, hwb⟩ : ∃ wb, wb = wa.alloc (.cells #[sv qx, .string ⟨#[]⟩] 49) := ⟨_, rfl⟩
        have hbb : Below wa.heap.size wa wb := by rw [hwb]; exact (Below.refl _ _).alloc (Nat.le_refl _) _
        have hxb : wb.heap[wa.heap.size]? = some (.cells #[sv qx, .string ⟨#[]⟩] 49 (0, 0)) := by rw [hwb]; exact alloc1 _ _
        have hsb : wb.heap.size = wa.heap.size + 1 := by rw [hwb]; simp
        have hqb := HBA.out.trans (hbb.mono HBA.out.size)
        have HKD := Lib.hid (kid_any (.mk 11 qx qa qks, .slice QA l qc) 0 wb (by omega) (HQI.out.under hqb))
        have HWB := Lib.hid (show wb = (wq.alloc (.cells #[.int .i64 11, sv qx, .int .i64 qa, .slice QA l qc] 25)).alloc (.cells #[sv qx, .string ⟨#[]⟩] 49) by rw [hwb, HWA.out])
        have HXB := Lib.hid hxb
        have HQB := Lib.hid hqb
        clear hwb hbb hxb hqb
        go_wp2_with fail
        rw [← HWB.out]
        clear a0 a1 a2 a3
        refine HKD.out.mono ?_
        rintro e w4 ⟨⟨kt, kv⟩, rfl, hkt, hki, hb4⟩
        simp only at hkt hki
        have hx4 := (hb4.block _ (lt_of_heap HXB.out)).trans HXB.out
        obtain ⟨KA, kc, kq, rfl, _⟩ := hki.open_
        have hbq4 := HQB.out.trans (hb4.mono HQB.out.size)
        have HBQ4 := Lib.hid hbq4
        have HX4 := Lib.hid hx4
        have HKT := Lib.hid hkt
        have hs4 := hb4.size
        obtain ⟨kl, hkl⟩ : ∃ kl, kl = kq.length := ⟨_, rfl⟩
        rw [← hkl]
        obtain ⟨kk, hkk⟩ : ∃ kk, kk = kt.kind := ⟨_, rfl⟩
        obtain ⟨kx, hkx⟩ : ∃ kx, kx = kt.text := ⟨_, rfl⟩
        obtain ⟨ka, hka⟩ : ∃ ka, ka = kt.at_ := ⟨_, rfl⟩
        dsimp only [trV]
        rw [← hkk, ← hkx, ← hka]
        have HKK := Lib.hid (And.intro hkk hkx)
        clear hki hb4 hx4 hkt hkl hkk hkx hka HKD hbq4
        by_cases hk2 : kk = 22
        · have hq1 : (kk == 22) = true := by simp [hk2]
          have HKD := Lib.hid hk2
          clear hk2
          have hk5 : Kp (fun y => y = wa.heap.size) w4 (w4.setCell ⟨wa.heap.size, 1, none⟩ (sv kx)) := Kp.setCell (M := fun y => y = wa.heap.size) (Kp.refl _ _) (fun _ => rfl) _
          have hkq : Kp (fun y => wq.heap.size ≤ y) wq (w4.setCell ⟨wa.heap.size, 1, none⟩ (sv kx)) := (Kp.ofBelow HBQ4.out).trans hk5 fun y _ e => by omega
          have hown6 := ((hkq.own HS.out fun g hg e => by have := (HS.out.lt g hg).2; omega).alloc (.cells #[.int .i64 kk, sv kx, .int .i64 ka, .slice KA kl kc] 25)).alloc (.cells #[sv qx, sv kx] 49)
          have hbw6 : Below w.heap.size w (w4.setCell ⟨wa.heap.size, 1, none⟩ (sv kx)) := kp_below (HBQ.out.trans (HBQ4.out.mono HBQ.out.size)) hk5 fun y e => by omega
          have HOC := Lib.hid hown6
          have HNEW := Lib.hid (World.news_of_block (cs := #[sv qx, sv kx]) (alloc1 ((w4.setCell ⟨wa.heap.size, 1, none⟩ (sv kx)).alloc (.cells #[.int .i64 kk, sv kx, .int .i64 ka, .slice KA kl kc] 25)) (.cells #[sv qx, sv kx] 49)))
          have HBW6 := Lib.hid ((hbw6.alloc hbw6.size (.cells #[.int .i64 kk, sv kx, .int .i64 ka, .slice KA kl kc] 25)).alloc (hbw6.alloc hbw6.size (.cells #[.int .i64 kk, sv kx, .int .i64 ka, .slice KA kl kc] 25)).size (.cells #[sv qx, sv kx] 49))
          have HBD : Hid (bndOf (.mk 11 qx qa qks) = kx) := Lib.hid (by unfold bndOf; rw [← HKT.out, ← HKK.out.1, ← HKK.out.2, if_pos HKD.out])
          have p0 : w4.cell? ⟨wa.heap.size, 0, none⟩ = some (sv qx) := (Lib.cell_of_heap HX4.out 0).trans rfl
          have p1 : w4.cell? ⟨wa.heap.size, 1, none⟩ = some (.string ⟨#[]⟩) := (Lib.cell_of_heap HX4.out 1).trans rfl
          have f1 : w4.frozen? ⟨wa.heap.size, 1, none⟩ = false := Lib.frozen_of_heap HX4.out 1
          have hl4 : wa.heap.size < w4.heap.size := lt_of_heap HX4.out
          try rw [hsa] at HOC
          try rw [hsa] at HNEW
          try rw [hsa] at HBW6
          rw [hsa] at p0 p1 f1 hl4
          have hsz6 : ((w4.setCell ⟨wq.heap.size + 1, 1, none⟩ (sv kx)).alloc (.cells #[.int .i64 kk, sv kx, .int .i64 ka, .slice KA kl kc] 25)).heap.size = w4.heap.size + 1 := by simp [World.setCell]
          rw [hsz6] at HNEW
          have hwq4 := HBQ4.out.size
          clear hk5 hkq hown6 hbw6 hsz6
          go_wp2_with (at_builtin; go_loud (refine wpList_append_lies _ rfl _ _ 36 rfl w.heap.size 49 i0 _ 2 32 Try.underlying36 hi hz0 hz1 hz2 rfl (by omega) (.slice NA n1 nc) n1 (flt prC2 (prmOf (ps.take k))) rfl HOC.out ⟨w4.heap.size + 1, 0, none⟩ 1 1 [sv qx, sv kx] rfl rfl HNEW.out ?d2 (by omega) ?d3 ?d4 ?d5 _ rfl ?_))
          case d2 => first | exact ⟨rfl, rfl⟩ | exact rfl | exact fun u hu => by simp only [List.mem_cons, List.not_mem_nil, or_false] at hu; rcases hu with rfl | rfl <;> rfl
          case d3 => unfold maxLen; omega
          case d4 => omega
          case d5 => omega
          rintro g cap w7 hown7 hg7 hgd hglt
          have hb7 : Below w.heap.size w w7 := HBW6.out.grown hg7 (HBW6.out.size) (fun x e => (HOC.out.lt x e).1)
          have hown8 : w7.ownsRow w.heap.size 49 2 (.slice (some ⟨g, 0, none⟩) (n1 + 1) cap) (prmOf (ps.take (k + 1))).length (flt prC2 (prmOf (ps.take (k + 1)))) := by
            rw [HYES.out trivial, HBD.out, List.length_append, ← HN1.out, flt_append, flt_one]
            exact hown7
          have HO8 := Lib.hid hown8
          have HB7 := Lib.hid hb7
          clear hown7 hg7 hb7 hown8
          go_wp2_with fail
          first | go_roundw | refine ⟨?rel, ?measure⟩
          case rel => exact ⟨k + 1, by omega, by go_num, HO8.out, HB7.out⟩
          case measure => simp [intOf]; omega
        · have hq1 : (kk == 22) = false := by simp [hk2]
          have HKD := Lib.hid hk2
          clear hk2
          have hb5 : Below w4.heap.size w4 (w4.alloc (.cells #[.int .i64 kk, sv kx, .int .i64 ka, .slice KA kl kc] 25)) := (Below.refl _ _).alloc (Nat.le_refl _) _
          have hx5 := (hb5.block _ (lt_of_heap HX4.out)).trans HX4.out
          have hk56 : Kp (fun y => y = wa.heap.size) (w4.alloc (.cells #[.int .i64 kk, sv kx, .int .i64 ka, .slice KA kl kc] 25)) (w4.alloc (.cells #[.int .i64 kk, sv kx, .int .i64 ka, .slice KA kl kc] 25)) := Kp.refl _ _
          have hbq5 := HBQ4.out.trans (hb5.mono HBQ4.out.size)
          have hkq : Kp (fun y => wq.heap.size ≤ y) wq (w4.alloc (.cells #[.int .i64 kk, sv kx, .int .i64 ka, .slice KA kl kc] 25)) := (Kp.ofBelow hbq5).trans hk56 fun y _ e => by omega
          have hown6 := (hkq.own HS.out fun g hg e => by have := (HS.out.lt g hg).2; omega).alloc (.cells #[sv qx, .string ⟨#[]⟩] 49)
          have hbw6 : Below w.heap.size w (w4.alloc (.cells #[.int .i64 kk, sv kx, .int .i64 ka, .slice KA kl kc] 25)) := kp_below (HBQ.out.trans (hbq5.mono HBQ.out.size)) hk56 fun y e => by omega
          have HOC := Lib.hid hown6
          have HNEW := Lib.hid (World.news_of_block (cs := #[sv qx, .string ⟨#[]⟩]) (alloc1 (w4.alloc (.cells #[.int .i64 kk, sv kx, .int .i64 ka, .slice KA kl kc] 25)) (.cells #[sv qx, .string ⟨#[]⟩] 49)))
          have HBW6 := Lib.hid (hbw6.alloc hbw6.size (.cells #[sv qx, .string ⟨#[]⟩] 49))
          have HBD : Hid (bndOf (.mk 11 qx qa qks) = []) := Lib.hid (by unfold bndOf; rw [← HKT.out, ← HKK.out.1, if_neg HKD.out])
          have p0 : w4.cell? ⟨wa.heap.size, 0, none⟩ = some (sv qx) := (Lib.cell_of_heap HX4.out 0).trans rfl
          have p1 : w4.cell? ⟨wa.heap.size, 1, none⟩ = some (.string ⟨#[]⟩) := (Lib.cell_of_heap HX4.out 1).trans rfl
          have f1 : w4.frozen? ⟨wa.heap.size, 1, none⟩ = false := Lib.frozen_of_heap HX4.out 1
          have hl4 : wa.heap.size < w4.heap.size := lt_of_heap HX4.out
          try rw [hsa] at HOC
          try rw [hsa] at HNEW
          try rw [hsa] at HBW6
          rw [hsa] at p0 p1 f1 hl4
          have hsz6 : (w4.alloc (.cells #[.int .i64 kk, sv kx, .int .i64 ka, .slice KA kl kc] 25)).heap.size = w4.heap.size + 1 := by simp
          rw [hsz6] at HNEW
          have hwq4 := HBQ4.out.size
          clear hb5 hx5 hk56 hbq5 hkq hown6 hbw6 hsz6
          go_wp2_with (at_builtin; go_loud (refine wpList_append_lies _ rfl _ _ 36 rfl w.heap.size 49 i0 _ 2 32 Try.underlying36 hi hz0 hz1 hz2 rfl (by omega) (.slice NA n1 nc) n1 (flt prC2 (prmOf (ps.take k))) rfl HOC.out ⟨w4.heap.size + 1, 0, none⟩ 1 1 [sv qx, .string ⟨#[]⟩] rfl rfl HNEW.out ?e2 (by omega) ?e3 ?e4 ?e5 _ rfl ?_))
          case e2 => first | exact ⟨rfl, rfl⟩ | exact rfl | exact fun u hu => by simp only [List.mem_cons, List.not_mem_nil, or_false] at hu; rcases hu with rfl | rfl <;> rfl
          case e3 => unfold maxLen; omega
          case e4 => omega
          case e5 => omega
          rintro g cap w7 hown7 hg7 hgd hglt
          have hb7 : Below w.heap.size w w7 := HBW6.out.grown hg7 (HBW6.out.size) (fun x e => (HOC.out.lt x e).1)
          have hown8 : w7.ownsRow w.heap.size 49 2 (.slice (some ⟨g, 0, none⟩) (n1 + 1) cap) (prmOf (ps.take (k + 1))).length (flt prC2 (prmOf (ps.take (k + 1)))) := by
            rw [HYES.out trivial, HBD.out, List.length_append, ← HN1.out, flt_append, flt_one]
            exact hown7
          have HO8 := Lib.hid hown8
          have HB7 := Lib.hid hb7
          clear hown7 hg7 hb7 hown8
          go_wp2_with fail
          first | go_roundw | refine ⟨?rel, ?measure⟩
          case rel => exact ⟨k + 1, by omega, by go_num, HO8.out, HB7.out⟩
          case measure => simp [intOf]; omega
      · have hq1 : (qk == 11) = false := by simp [hkd]
        have hq2 : (qk != 11) = true := by simp [hkd]
        have HKD := Lib.hid hkd
        clear hkd
        go_wp2_with fail
        rw [← HWA.out]
        try rw [← HAD.out]
        first | go_roundw | refine ⟨?rel, ?measure⟩
        case rel =>
          refine ⟨k + 1, by omega, by go_num, ?_, HBQ.out.trans (HBA.out.mono hbw)⟩
          rw [HNO.out HKD.out, ← HN1.out]
          exact (Kp.ofBelow (M := fun _ => False) HBA.out).own HS.out fun _ _ e => e
        case measure => simp [intOf]; omega
    · obtain rfl : k = m := by omega
      have hfin : ps.take k = ps := List.take_of_length_le (by rw [← HM.out]; exact Nat.le_refl _)
      rw [hfin] at hS hn1
      have HRES : Hid (PrmRes ps w (.returned (.slice NA n1 nc)) wq) := Lib.hid ⟨_, rfl, by rw [← hn1]; exact hS, hb⟩
      clear hS hb hlt hfin hn1 hnk
      go_wp2
      go_ret
      exact HRES.out
end
end Go.Proofs.Ytiijlecidepneaa
