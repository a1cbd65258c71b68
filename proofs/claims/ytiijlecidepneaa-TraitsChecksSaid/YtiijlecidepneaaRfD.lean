/-
  The walk of recompileref11.args.
  Conditions: the argument reads as a tree.
-/
import Derived.Test.YtiijlecidepneaaSigD
import Derived.Test.YtiijlecidepneaaRfA
import Derived.Test.YtiijlecidepneaaRfB
namespace Go.Proofs.Ytiijlecidepneaa
open Go.RowKit

theorem ArgSt.mono {B B' : Nat} {ns : List (List UInt8)} {ts : List Ty} {nv tv : Value} {vs : List (Value × Value)} {w : World} (h : ArgSt B ns ts nv tv vs w) (hB : B' ≤ B) : ArgSt B' ns ts nv tv vs w := ⟨ownMono h.names hB, ownMono h.own hB, h.len, fun i t p a b => (h.each i t p a b).more fun x hx => ⟨Nat.le_trans hB hx.1, hx.2⟩, h.ne⟩
set_option maxHeartbeats 4000000 in
set_option maxRecDepth 100000 in
theorem rargs_any (t : Tr) (A : Option Addr) (c : Nat) (ps : List (Tr × Value)) (w : World) (hz : ps.length ≤ 3518437208883) (hT : Trs w (Lt w.heap.size) A ps) : Calls Try.prog 39 #[.agg #[.int .i64 t.kind, sv t.text, .int .i64 t.at_, .slice A ps.length c]] w (ArgLRes ps w) := by
  obtain ⟨m, hm⟩ : ∃ m, m = ps.length := ⟨_, rfl⟩
  rw [← hm] at hz ⊢
  obtain ⟨tk, htk⟩ : ∃ k, k = t.kind := ⟨_, rfl⟩
  obtain ⟨tx, htx⟩ : ∃ k, k = t.text := ⟨_, rfl⟩
  obtain ⟨ta, hta⟩ : ∃ k, k = t.at_ := ⟨_, rfl⟩
  rw [← htk, ← htx, ← hta]
  have HM := Lib.hid hm
  clear hm htk htx hta
  obtain ⟨i0, hi, hz0, hz1, hz2⟩ := info_parts infoT
  obtain ⟨i5, hj, hy0, hy1, hy2⟩ := info_parts infoS
  obtain ⟨w0, hw0⟩ : ∃ w0, w0 = w.alloc (.cells #[.int .i64 tk, sv tx, .int .i64 ta, .slice A m c] 25) := ⟨_, rfl⟩
  have hb0 : Below w.heap.size w w0 := by rw [hw0]; exact (Below.refl _ _).alloc (Nat.le_refl _) _
  have hx0 : w0.heap[w.heap.size]? = some (.cells #[.int .i64 tk, sv tx, .int .i64 ta, .slice A m c] 25 (0, 0)) := by rw [hw0]; exact alloc1 _ _
  have hs0 : w0.heap.size = w.heap.size + 1 := by rw [hw0]; simp
  have HW0 := Lib.hid hw0
  have HX0 := Lib.hid hx0
  have HB0 := Lib.hid hb0
  clear hw0 hb0 hx0
  go_enter Try.func39, Try.ntmps39
  go_wp2_with fail
  rw [← HW0.out]
  go_loopw [6, 4, 5] (fun i nv tv wr => ∃ (k : Nat) (vs : List (Value × Value)), k ≤ m ∧ i = .int .i64 k ∧ ArgSt w0.heap.size (argN (ps.take k)) (argT (ps.take k)) nv tv vs wr ∧ Below w0.heap.size w0 wr) (fun i _ _ _ => m - (intOf i).toNat)
  case atStart => exact ⟨0, [], Nat.zero_le _, rfl, ArgSt.none _ _, Below.refl _ _⟩
  case round =>
    obtain ⟨k, vs, hk, rfl, hS, hb⟩ := hrel
    obtain ⟨wq, hwq⟩ : ∃ wq, wq = wr := ⟨_, rfl⟩
    rw [← hwq] at hS hb ⊢
    clear hwq
    obtain ⟨NA, nc, rfl, _⟩ := own_slice hS.names
    obtain ⟨TA, tc, rfl, _⟩ := own_slice hS.own
    have hnk : (argN (ps.take k)).length ≤ k := by unfold argN; rw [List.length_map]; exact argK_len ps k
    have htk : (argT (ps.take k)).length ≤ k := by unfold argT; rw [List.length_map]; exact argK_len ps k
    obtain ⟨n1, hn1⟩ : ∃ n, n = (argN (ps.take k)).length := ⟨_, rfl⟩
    obtain ⟨n2, hn2⟩ : ∃ n, n = (argT (ps.take k)).length := ⟨_, rfl⟩
    have hlnt : n1 = n2 := by rw [hn1, hn2]; unfold argN argT; rw [List.length_map, List.length_map]
    rw [← hn1] at hS hnk ⊢
    rw [← hn2] at hS htk ⊢
    have hbw := hb.size
    have hxq := (hb.block _ (lt_of_heap HX0.out)).trans HX0.out
    have x3 : wq.cell? ⟨w.heap.size, 3, none⟩ = some (.slice A m c) := (Lib.cell_of_heap hxq 3).trans rfl
    have hlx := lt_of_heap hxq
    clear hxq
    by_cases hlt : k < m
    · obtain ⟨q, hq⟩ : ∃ q, ps[k]? = some q := ⟨_, List.getElem?_eq_getElem (by rw [← HM.out]; exact hlt)⟩
      have hTr := hT.below HB0.out
      obtain ⟨ad, hA, hadl, a0, a1, a2, a3⟩ := tr_at hTr.row hq
      have hqi := hTr.each k q hq
      have hyes := fun h => argK_yes hq h
      have hno := fun h => argK_no hq h
      obtain ⟨QA, qc, qs, hqv, _⟩ := hqi.open_
      obtain ⟨⟨qk, qx, qa, qks⟩, qv⟩ := q
      simp only [Tr.kind, Tr.text, Tr.at_] at a0 a1 a2 a3 hqv hqi hyes hno
      subst hqv
      obtain ⟨l, hl'⟩ : ∃ l, l = qs.length := ⟨_, rfl⟩
      rw [← hl'] at a3 hqi hyes
      have hik : (0 : Int) ≤ (k : Int) ∧ (k : Int) < (m : Int) := ⟨by omega, by omega⟩
      have hxw : w0.cell? ⟨w.heap.size, 3, none⟩ = some (.slice (some ad) m c) := by rw [← hA]; exact (Lib.cell_of_heap HX0.out 3).trans rfl
      have HC : Hid (∀ u, Below w0.heap.size w0 u → AtCells [(⟨w.heap.size, 3, none⟩, .slice (some ad) m c), (ad.add (k * 4), .int .i64 qk), (⟨(ad.add (k * 4)).block, (ad.add (k * 4)).off + 1, none⟩, sv qx), (⟨(ad.add (k * 4)).block, (ad.add (k * 4)).off + 2, none⟩, .int .i64 qa), (⟨(ad.add (k * 4)).block, (ad.add (k * 4)).off + 3, none⟩, .slice QA l qc)] u) := Lib.hid fun u hu => AtCells.below hu ⟨hxw, a0, a1, a2, a3, trivial⟩
      clear a0 a1 a2 a3 hxw
      obtain ⟨_, a0, a1, a2, a3, _⟩ := HC.out wq hb
      rw [hA] at x3
      have HS := Lib.hid hS
      have hnlq := hS.names.lt
      have htlq := hS.own.lt
      have HQW := Lib.hid fun w' (hb : Below w0.heap.size w0 w') => hqi.under hb
      have HBQ := Lib.hid hb
      have HYES := Lib.hid hyes
      have HNO := Lib.hid hno
      have HN12 := Lib.hid (And.intro hn1 hn2)
      rw [hA]
      have HAD := Lib.hid hA
      have hqx : qx.length ≤ 140737488355328 := by cases hqi; assumption
      clear hq hTr hA hqi hyes hno hl' hb hS hn1 hn2 hlnt
      by_cases hkd : qk = 13
      · subst hkd
        have hnl := (HS.out.names).alloc (.cells #[sv qx] 9)
        rw [← HN12.out.1] at hnl
        have HNL := Lib.hid hnl
        have HNEW := Lib.hid (World.news_of_block (cs := #[sv qx]) (alloc1 wq (.cells #[sv qx] 9)))
        have hb1 : Below wq.heap.size wq (wq.alloc (.cells #[sv qx] 9)) := (Below.refl _ _).alloc (Nat.le_refl _) _
        have hs1 : (wq.alloc (.cells #[sv qx] 9)).heap.size = wq.heap.size + 1 := by simp
        have HB1 := Lib.hid hb1
        have HS1 := Lib.hid hs1
        clear hnl hb1 hs1
        go_wp2_with (at_builtin; go_loud (refine wpList_append_lies _ rfl _ _ 37 rfl w0.heap.size 9 i5 _ 1 16 Try.underlying37 hj hy0 hy1 hy2 rfl (by omega) (.slice NA n1 nc) n1 ((argN (ps.take k)).map sv) rfl HNL.out ⟨wq.heap.size, 0, none⟩ 1 1 [sv qx] rfl rfl HNEW.out ?d2 (by omega) ?d3 ?d4 ?d5 _ rfl ?_))
        case d2 => first | rfl | exact fun u hu => by (rw [List.mem_singleton.1 hu]; rfl)
        case d3 => unfold maxLen; omega
        case d4 => omega
        case d5 => omega
        rintro g cap w2 hown2 hg2 hgd hglt
        have hNQ : ∀ g, (Value.slice NA n1 nc).ownBlock = some g → w0.heap.size ≤ g ∧ g < wq.heap.size := hnlq
        have hTQ : ∀ g, (Value.slice TA n2 tc).ownBlock = some g → w0.heap.size ≤ g ∧ g < wq.heap.size := htlq
        have hk2 : Kp (fun y => (Value.slice NA n1 nc).ownBlock = some y) (wq.alloc (.cells #[sv qx] 9)) w2 := (Kp.refl _ _).grown hg2 fun r hr _ => hr
        have hS1 := HS.out.below HB1.out
        have hS2 := hS1.name (x := qx) (nv' := .slice (some ⟨g, 0, none⟩) (n1 + 1) cap) (by rw [← HN12.out.1, hs0]; exact hown2) hg2 (hgd.elim (fun e => .inl e.symm) fun e => .inr (by rw [e, HS1.out]; rfl))
        have hbw2 : Below w0.heap.size w0 w2 := kp_below (HBQ.out.trans (HB1.out.mono HBQ.out.size)) hk2 fun y e => (hNQ y e).1
        have hs2 : wq.heap.size + 1 ≤ w2.heap.size := by rw [← HS1.out]; exact hk2.size
        have HQ2 := Lib.hid (HQW.out _ hbw2)
        have HS2 := Lib.hid hS2
        have HBW2 := Lib.hid hbw2
        clear hown2 hg2 hgd hk2 hS1 hS2 hbw2 a0 a1 a2 a3 x3
        obtain ⟨y3, b0, b1, b2, b3, _⟩ := HC.out w2 HBW2.out
        have HKD := Lib.hid (rkid_any (.mk 13 qx qa qks, .slice QA l qc) 0 w2 (by omega) HQ2.out)
        have hlt2 : ∀ g', (Value.slice (some ⟨g, 0, none⟩) (n1 + 1) cap).ownBlock = some g' → g' < w2.heap.size := fun g' e => by cases e; exact hglt
        have HLT2 := Lib.hid hlt2
        clear hlt2
        go_wp2_with fail
        clear y3 b0 b1 b2 b3
        refine HKD.out.mono ?_
        rintro e w4 ⟨⟨kt, kv⟩, rfl, hkt, hki, hb4⟩
        simp only at hkt hki
        subst hkt
        have HB4 := Lib.hid hb4
        have HTYC := Lib.hid (rtyp_any _ kv w4 hki)
        obtain ⟨KA, kc, kq, rfl, _⟩ := hki.open_
        have hs4 := hb4.size
        clear hki hb4 HKD
        go_wp2_with fail
        refine HTYC.out.mono ?_
        rintro e w5 ⟨u1, v1, rfl, hT1, hb5⟩
        obtain ⟨u1, v1, rfl, rfl⟩ := hT1.shape
        have hb25 := HB4.out.trans (hb5.mono HB4.out.size)
        have hs5 := hb5.size
        have HB25 := Lib.hid hb25
        have HT1 := Lib.hid hT1
        clear hb5 hb25 hT1 HTYC
        have hb6 : Below w5.heap.size w5 (w5.alloc (.cells #[sv u1, .slice v1.1 v1.2.1 v1.2.2] 35)) := (Below.refl _ _).alloc (Nat.le_refl _) _
        have hb26 := HB25.out.trans (hb6.mono HB25.out.size)
        have hS6 := HS2.out.below hb26
        have hown6 := hS6.own
        rw [← HN12.out.2] at hown6
        have hT6 := HT1.out.keep (S := Fr w4.heap.size w5.heap.size) ((kept_below hb6).sub fun y hy => hy.2)
        have HBW6 := Lib.hid (HBW2.out.trans (hb26.mono HBW2.out.size))
        have HNEW6 := Lib.hid (World.news_of_block (cs := #[sv u1, .slice v1.1 v1.2.1 v1.2.2]) (alloc1 w5 (.cells #[sv u1, .slice v1.1 v1.2.1 v1.2.2] 35)))
        have HO6 := Lib.hid hown6
        have HS6 := Lib.hid hS6
        have HT6 := Lib.hid hT6
        have HSZ6 : Hid ((w5.alloc (.cells #[sv u1, .slice v1.1 v1.2.1 v1.2.2] 35)).heap.size = w5.heap.size + 1) := Lib.hid (by simp)
        clear hb6 hb26 hS6 hown6 hT6
        go_wp2_with (at_builtin; go_loud (refine wpList_append_lies _ rfl _ _ 33 rfl w0.heap.size 35 i0 _ 2 40 Try.underlying33 hi hz0 hz1 hz2 rfl (by omega) (.slice TA n2 tc) n2 (flat2 vs) rfl HO6.out ⟨w5.heap.size, 0, none⟩ 1 1 [sv u1, .slice v1.1 v1.2.1 v1.2.2] rfl rfl HNEW6.out ?e2 (by omega) ?e3 ?e4 ?e5 _ rfl ?_))
        case e2 => first | rfl | exact ⟨rfl, rfl⟩ | exact fun u hu => by (simp only [List.mem_cons, List.not_mem_nil, or_false] at hu; rcases hu with rfl | rfl <;> rfl)
        case e3 => unfold maxLen; omega
        case e4 => omega
        case e5 => have := HSZ6.out; omega
        rintro g7 cap7 w7 hown7 hg7 hgd7 hglt7
        have hk7 : Kp (fun y => (Value.slice TA n2 tc).ownBlock = some y) (w5.alloc (.cells #[sv u1, .slice v1.1 v1.2.1 v1.2.2] 35)) w7 := (Kp.refl _ _).grown hg7 fun r hr _ => hr
        have hS7 := HS6.out.typ (t := tyOf (kidT (.mk 13 qx qa qks) 0)) (u := sv u1) (v := .slice v1.1 v1.2.1 v1.2.2) (tv' := .slice (some ⟨g7, 0, none⟩) (n2 + 1) cap7) (HT6.out.more fun y hy => ⟨by have := hy.1; omega, by rw [HSZ6.out]; have := hy.2; omega, fun e => by have := (hTQ y e.symm).2; have := hy.1; omega, fun e => by have := HLT2.out y e.symm; have := hy.1; omega⟩) (by rw [← HN12.out.2]; first | exact hown7 | (rw [hs0]; exact hown7)) hg7 (hgd7.elim (fun e => .inl e.symm) fun e => .inr (by rw [e, HSZ6.out]; rfl))
        have hbw7 : Below w0.heap.size w0 w7 := kp_below HBW6.out hk7 fun y e => (hTQ y e).1
        have hS8 : ArgSt w0.heap.size (argN (ps.take (k + 1))) (argT (ps.take (k + 1))) (.slice (some ⟨g, 0, none⟩) (n1 + 1) cap) (.slice (some ⟨g7, 0, none⟩) (n2 + 1) cap7) (vs ++ [(sv u1, .slice v1.1 v1.2.1 v1.2.2)]) w7 := by
          have e1 : argN (ps.take (k + 1)) = argN (ps.take k) ++ [qx] := by unfold argN; rw [HYES.out (by trivial), List.map_append]; rfl
          have e2 : argT (ps.take (k + 1)) = argT (ps.take k) ++ [tyOf (kidT (.mk 13 qx qa qks) 0)] := by unfold argT; rw [HYES.out (by trivial), List.map_append]; rfl
          rw [e1, e2]
          exact hS7
        have HS8 := Lib.hid hS8
        have HBW7 := Lib.hid hbw7
        clear hown7 hg7 hgd7 hk7 hS7 hbw7 hS8
        go_wp2_with fail
        try rw [← HAD.out]
        first | go_roundw | refine ⟨?rel, ?measure⟩
        case rel => exact ⟨k + 1, _, by omega, by go_num, HS8.out, HBW7.out⟩
        case measure => simp [intOf]; omega
      · have hq1 : (qk == 13) = false := by simp [hkd]
        have HKD := Lib.hid hkd
        clear hkd
        go_wp2_with fail
        try rw [← HAD.out]
        first | go_roundw | refine ⟨?rel, ?measure⟩
        case rel =>
          refine ⟨k + 1, vs, by omega, by go_num, ?_, HBQ.out⟩
          have e1 : argN (ps.take (k + 1)) = argN (ps.take k) := by unfold argN; rw [HNO.out HKD.out]
          have e2 : argT (ps.take (k + 1)) = argT (ps.take k) := by unfold argT; rw [HNO.out HKD.out]
          rw [e1, e2]
          exact HS.out
        case measure => simp [intOf]; omega
    · obtain rfl : k = m := by omega
      have hfin : ps.take k = ps := List.take_of_length_le (by rw [← HM.out]; exact Nat.le_refl _)
      rw [hfin] at hS
      have HRES : Hid (ArgLRes ps w (.returned (.tuple #[.slice NA n1 nc, .slice TA n2 tc])) wq) := Lib.hid ⟨_, _, vs, rfl, hS.mono HB0.out.size, HB0.out.trans (hb.mono HB0.out.size)⟩
      clear hS hb hlt hfin hn1 hn2 hlnt hnk htk
      go_wp2
      go_ret2
      exact HRES.out
end Go.Proofs.Ytiijlecidepneaa
