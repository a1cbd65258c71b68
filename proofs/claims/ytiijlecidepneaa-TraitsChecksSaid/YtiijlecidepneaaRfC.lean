/-
  The walk of recompileref11.Params.
  Conditions: the argument reads as a tree.
-/
import Derived.Test.YtiijlecidepneaaSigD
import Derived.Test.YtiijlecidepneaaRfA
namespace Go.Proofs.Ytiijlecidepneaa
open Go.RowKit

set_option maxHeartbeats 4000000 in
set_option maxRecDepth 100000 in
theorem rparams_any (t : Tr) (A : Option Addr) (c : Nat) (ps : List (Tr × Value)) (w : World) (hz : ps.length ≤ 3518437208883) (hT : Trs w (Lt w.heap.size) A ps) : Calls Try.prog 38 #[.agg #[.int .i64 t.kind, sv t.text, .int .i64 t.at_, .slice A ps.length c]] w (PrmRes ps w) := by
  obtain ⟨m, hm⟩ : ∃ m, m = ps.length := ⟨_, rfl⟩
  rw [← hm] at hz ⊢
  obtain ⟨tk, htk⟩ : ∃ k, k = t.kind := ⟨_, rfl⟩
  obtain ⟨tx, htx⟩ : ∃ k, k = t.text := ⟨_, rfl⟩
  obtain ⟨ta, hta⟩ : ∃ k, k = t.at_ := ⟨_, rfl⟩
  rw [← htk, ← htx, ← hta]
  have HM := Lib.hid hm
  clear hm htk htx hta
  obtain ⟨i0, hi, hz0, hz1, hz2⟩ := info_parts infoPrm
  obtain ⟨w0, hw0⟩ : ∃ w0, w0 = w.alloc (.cells #[.int .i64 tk, sv tx, .int .i64 ta, .slice A m c] 25) := ⟨_, rfl⟩
  have hb0 : Below w.heap.size w w0 := by rw [hw0]; exact (Below.refl _ _).alloc (Nat.le_refl _) _
  have hx0 : w0.heap[w.heap.size]? = some (.cells #[.int .i64 tk, sv tx, .int .i64 ta, .slice A m c] 25 (0, 0)) := by rw [hw0]; exact alloc1 _ _
  have hs0 : w0.heap.size = w.heap.size + 1 := by rw [hw0]; simp
  have HW0 := Lib.hid hw0
  have HX0 := Lib.hid hx0
  have HB0 := Lib.hid hb0
  clear hw0 hb0 hx0
  go_enter Try.func38, Try.ntmps38
  go_wp2_with fail
  rw [← HW0.out]
  go_loopw [4, 3] (fun i lv wr => ∃ k : Nat, k ≤ m ∧ i = .int .i64 k ∧ wr.ownsRow w0.heap.size 49 2 lv (prmOf (ps.take k)).length (flt prC2 (prmOf (ps.take k))) ∧ Below w0.heap.size w0 wr) (fun i _ _ => m - (intOf i).toNat)
  case atStart => exact ⟨0, Nat.zero_le _, rfl, World.ownsRow_nil _ _ _ _, Below.refl _ _⟩
  case round =>
    obtain ⟨k, hk, rfl, hS, hb⟩ := hrel
    obtain ⟨wq, hwq⟩ : ∃ wq, wq = wr := ⟨_, rfl⟩
    rw [← hwq] at hS hb ⊢
    clear hwq
    obtain ⟨NA, nc, rfl, _⟩ := own_slice hS
    have hnk := prmOf_len ps k
    obtain ⟨n1, hn1⟩ : ∃ n, n = (prmOf (ps.take k)).length := ⟨_, rfl⟩
    rw [← hn1] at hS hnk ⊢
    have hbw := hb.size
    have hxq := (hb.block _ (lt_of_heap HX0.out)).trans HX0.out
    have x3 : wq.cell? ⟨w.heap.size, 3, none⟩ = some (.slice A m c) := (Lib.cell_of_heap hxq 3).trans rfl
    have hlx := lt_of_heap hxq
    clear hxq
    by_cases hlt : k < m
    · obtain ⟨q, hq⟩ : ∃ q, ps[k]? = some q := ⟨_, List.getElem?_eq_getElem (by rw [← HM.out]; exact hlt)⟩
      have hTr := hT.below (HB0.out.trans (hb.mono HB0.out.size))
      obtain ⟨ad, hA, hadl, a0, a1, a2, a3⟩ := tr_at hTr.row hq
      have hqi := hTr.each k q hq
      have hyes := fun h => prmOf_yes hq h
      have hno := fun h => prmOf_no hq h
      obtain ⟨QA, qc, qs, hqv, _⟩ := hqi.open_
      obtain ⟨⟨qk, qx, qa, qks⟩, qv⟩ := q
      simp only [Tr.kind, Tr.text, Tr.at_] at a0 a1 a2 a3 hqv hqi hyes hno
      subst hqv
      obtain ⟨l, hl'⟩ : ∃ l, l = qs.length := ⟨_, rfl⟩
      rw [← hl'] at a3 hqi
      have hik : (0 : Int) ≤ (k : Int) ∧ (k : Int) < (m : Int) := ⟨by omega, by omega⟩
      have hadd : ad.block < wq.heap.size := hadl
      have hadk : (ad.add (k * 4)).block < wq.heap.size := by unfold Addr.add; split <;> exact hadd
      have HS := Lib.hid hS
      have HBQ := Lib.hid hb
      have HQI := Lib.hid hqi
      have HYES := Lib.hid hyes
      have HNO := Lib.hid hno
      have HN1 := Lib.hid hn1
      rw [hA] at x3
      rw [hA]
      have HAD := Lib.hid hA
      clear hq hTr hA hqi hyes hno hl' hb hS hn1
      by_cases hkd : qk = 11
      · subst hkd
        obtain ⟨wb, hwb⟩ : ∃ wb, wb = wq.alloc (.cells #[sv qx, .string ⟨#[]⟩] 49) := ⟨_, rfl⟩
        have hbb : Below wq.heap.size wq wb := by rw [hwb]; exact (Below.refl _ _).alloc (Nat.le_refl _) _
        have hxb : wb.heap[wq.heap.size]? = some (.cells #[sv qx, .string ⟨#[]⟩] 49 (0, 0)) := by rw [hwb]; exact alloc1 _ _
        have hsb : wb.heap.size = wq.heap.size + 1 := by rw [hwb]; simp
        have hqb := hbb
        have HKD := Lib.hid (rkid_any (.mk 11 qx qa qks, .slice QA l qc) 0 wb (by omega) (HQI.out.under hqb))
        have HWB := Lib.hid hwb
        have HXB := Lib.hid hxb
        have HQB := Lib.hid hqb
        clear hwb hbb hxb hqb
        go_wp2_with fail
        rw [← HWB.out]
        clear a0 a1 a2 a3
        refine HKD.out.mono ?_
        rintro e w4 ⟨⟨kt, kv⟩, rfl, hkt, hki, hb4⟩
        simp only at hkt hki
        have hx4 := (hb4.block _ (lt_of_heap HXB.out)).trans HXB.out
        obtain ⟨KA, kc, kq, rfl, _⟩ := hki.open_
        have hbq4 := HQB.out.trans (hb4.mono HQB.out.size)
        have HBQ4 := Lib.hid hbq4
        have HX4 := Lib.hid hx4
        have HKT := Lib.hid hkt
        have hs4 := hb4.size
        obtain ⟨kl, hkl⟩ : ∃ kl, kl = kq.length := ⟨_, rfl⟩
        rw [← hkl]
        obtain ⟨kk, hkk⟩ : ∃ kk, kk = kt.kind := ⟨_, rfl⟩
        obtain ⟨kx, hkx⟩ : ∃ kx, kx = kt.text := ⟨_, rfl⟩
        obtain ⟨ka, hka⟩ : ∃ ka, ka = kt.at_ := ⟨_, rfl⟩
        dsimp only [trV]
        rw [← hkk, ← hkx, ← hka]
        have HKK := Lib.hid (And.intro hkk hkx)
        clear hki hb4 hx4 hkt hkl hkk hkx hka HKD hbq4
        by_cases hk2 : kk = 22
        · have hq1 : (kk == 22) = true := by simp [hk2]
          have HKD := Lib.hid hk2
          clear hk2
          have hk5 : Kp (fun y => y = wq.heap.size) w4 (w4.setCell ⟨wq.heap.size, 1, none⟩ (sv kx)) := Kp.setCell (M := fun y => y = wq.heap.size) (Kp.refl _ _) (fun _ => rfl) _
          have hkq : Kp (fun y => wq.heap.size ≤ y) wq (w4.setCell ⟨wq.heap.size, 1, none⟩ (sv kx)) := (Kp.ofBelow HBQ4.out).trans hk5 fun y _ e => by omega
          have hown6 := ((hkq.own HS.out fun g hg e => by have := (HS.out.lt g hg).2; omega).alloc (.cells #[.int .i64 kk, sv kx, .int .i64 ka, .slice KA kl kc] 25)).alloc (.cells #[sv qx, sv kx] 49)
          have hbw6 : Below w0.heap.size w0 (w4.setCell ⟨wq.heap.size, 1, none⟩ (sv kx)) := kp_below (HBQ.out.trans (HBQ4.out.mono HBQ.out.size)) hk5 fun y e => by omega
          have HOC := Lib.hid hown6
          have HNEW := Lib.hid (World.news_of_block (cs := #[sv qx, sv kx]) (alloc1 ((w4.setCell ⟨wq.heap.size, 1, none⟩ (sv kx)).alloc (.cells #[.int .i64 kk, sv kx, .int .i64 ka, .slice KA kl kc] 25)) (.cells #[sv qx, sv kx] 49)))
          have HBW6 := Lib.hid ((hbw6.alloc hbw6.size (.cells #[.int .i64 kk, sv kx, .int .i64 ka, .slice KA kl kc] 25)).alloc (hbw6.alloc hbw6.size (.cells #[.int .i64 kk, sv kx, .int .i64 ka, .slice KA kl kc] 25)).size (.cells #[sv qx, sv kx] 49))
          have HBD : Hid (bndOf (.mk 11 qx qa qks) = kx) := Lib.hid (by unfold bndOf; rw [← HKT.out, ← HKK.out.1, ← HKK.out.2, if_pos HKD.out])
          have p0 : w4.cell? ⟨wq.heap.size, 0, none⟩ = some (sv qx) := (Lib.cell_of_heap HX4.out 0).trans rfl
          have p1 : w4.cell? ⟨wq.heap.size, 1, none⟩ = some (.string ⟨#[]⟩) := (Lib.cell_of_heap HX4.out 1).trans rfl
          have f1 : w4.frozen? ⟨wq.heap.size, 1, none⟩ = false := Lib.frozen_of_heap HX4.out 1
          have hl4 : wq.heap.size < w4.heap.size := lt_of_heap HX4.out
          have hsz6 : ((w4.setCell ⟨wq.heap.size, 1, none⟩ (sv kx)).alloc (.cells #[.int .i64 kk, sv kx, .int .i64 ka, .slice KA kl kc] 25)).heap.size = w4.heap.size + 1 := by simp [World.setCell]
          rw [hsz6] at HNEW
          have hwq4 := HBQ4.out.size
          clear hk5 hkq hown6 hbw6 hsz6
          go_wp2_with (at_builtin; go_loud (refine wpList_append_lies _ rfl _ _ 36 rfl w0.heap.size 49 i0 _ 2 32 Try.underlying36 hi hz0 hz1 hz2 rfl (by omega) (.slice NA n1 nc) n1 (flt prC2 (prmOf (ps.take k))) rfl HOC.out ⟨w4.heap.size + 1, 0, none⟩ 1 1 [sv qx, sv kx] rfl rfl HNEW.out ?d2 (by omega) ?d3 ?d4 ?d5 _ rfl ?_))
          case d2 => first | exact ⟨rfl, rfl⟩ | exact rfl | exact fun u hu => by simp only [List.mem_cons, List.not_mem_nil, or_false] at hu; rcases hu with rfl | rfl <;> rfl
          case d3 => unfold maxLen; omega
          case d4 => omega
          case d5 => omega
          rintro g cap w7 hown7 hg7 hgd hglt
          have hb7 : Below w0.heap.size w0 w7 := HBW6.out.grown hg7 (HBW6.out.size) (fun x e => (HOC.out.lt x e).1)
          have hown8 : w7.ownsRow w0.heap.size 49 2 (.slice (some ⟨g, 0, none⟩) (n1 + 1) cap) (prmOf (ps.take (k + 1))).length (flt prC2 (prmOf (ps.take (k + 1)))) := by
            rw [HYES.out trivial, HBD.out, List.length_append, ← HN1.out, flt_append, flt_one]
            rw [hs0]
            exact hown7
          have HO8 := Lib.hid hown8
          have HB7 := Lib.hid hb7
          clear hown7 hg7 hb7 hown8
          go_wp2_with fail
          first | go_roundw | refine ⟨?rel, ?measure⟩
          case rel => exact ⟨k + 1, by omega, by go_num, HO8.out, HB7.out⟩
          case measure => simp [intOf]; omega
        · have hq1 : (kk == 22) = false := by simp [hk2]
          have HKD := Lib.hid hk2
          clear hk2
          have hb5 : Below w4.heap.size w4 (w4.alloc (.cells #[.int .i64 kk, sv kx, .int .i64 ka, .slice KA kl kc] 25)) := (Below.refl _ _).alloc (Nat.le_refl _) _
          have hx5 := (hb5.block _ (lt_of_heap HX4.out)).trans HX4.out
          have hk56 : Kp (fun y => y = wq.heap.size) (w4.alloc (.cells #[.int .i64 kk, sv kx, .int .i64 ka, .slice KA kl kc] 25)) (w4.alloc (.cells #[.int .i64 kk, sv kx, .int .i64 ka, .slice KA kl kc] 25)) := Kp.refl _ _
          have hbq5 := HBQ4.out.trans (hb5.mono HBQ4.out.size)
          have hkq : Kp (fun y => wq.heap.size ≤ y) wq (w4.alloc (.cells #[.int .i64 kk, sv kx, .int .i64 ka, .slice KA kl kc] 25)) := (Kp.ofBelow hbq5).trans hk56 fun y _ e => by omega
          have hown6 := (hkq.own HS.out fun g hg e => by have := (HS.out.lt g hg).2; omega).alloc (.cells #[sv qx, .string ⟨#[]⟩] 49)
          have hbw6 : Below w0.heap.size w0 (w4.alloc (.cells #[.int .i64 kk, sv kx, .int .i64 ka, .slice KA kl kc] 25)) := kp_below (HBQ.out.trans (hbq5.mono HBQ.out.size)) hk56 fun y e => by omega
          have HOC := Lib.hid hown6
          have HNEW := Lib.hid (World.news_of_block (cs := #[sv qx, .string ⟨#[]⟩]) (alloc1 (w4.alloc (.cells #[.int .i64 kk, sv kx, .int .i64 ka, .slice KA kl kc] 25)) (.cells #[sv qx, .string ⟨#[]⟩] 49)))
          have HBW6 := Lib.hid (hbw6.alloc hbw6.size (.cells #[sv qx, .string ⟨#[]⟩] 49))
          have HBD : Hid (bndOf (.mk 11 qx qa qks) = []) := Lib.hid (by unfold bndOf; rw [← HKT.out, ← HKK.out.1, if_neg HKD.out])
          have p0 : w4.cell? ⟨wq.heap.size, 0, none⟩ = some (sv qx) := (Lib.cell_of_heap HX4.out 0).trans rfl
          have p1 : w4.cell? ⟨wq.heap.size, 1, none⟩ = some (.string ⟨#[]⟩) := (Lib.cell_of_heap HX4.out 1).trans rfl
          have f1 : w4.frozen? ⟨wq.heap.size, 1, none⟩ = false := Lib.frozen_of_heap HX4.out 1
          have hl4 : wq.heap.size < w4.heap.size := lt_of_heap HX4.out
          have hsz6 : (w4.alloc (.cells #[.int .i64 kk, sv kx, .int .i64 ka, .slice KA kl kc] 25)).heap.size = w4.heap.size + 1 := by simp
          rw [hsz6] at HNEW
          have hwq4 := HBQ4.out.size
          clear hb5 hx5 hk56 hbq5 hkq hown6 hbw6 hsz6
          go_wp2_with (at_builtin; go_loud (refine wpList_append_lies _ rfl _ _ 36 rfl w0.heap.size 49 i0 _ 2 32 Try.underlying36 hi hz0 hz1 hz2 rfl (by omega) (.slice NA n1 nc) n1 (flt prC2 (prmOf (ps.take k))) rfl HOC.out ⟨w4.heap.size + 1, 0, none⟩ 1 1 [sv qx, .string ⟨#[]⟩] rfl rfl HNEW.out ?e2 (by omega) ?e3 ?e4 ?e5 _ rfl ?_))
          case e2 => first | exact ⟨rfl, rfl⟩ | exact rfl | exact fun u hu => by simp only [List.mem_cons, List.not_mem_nil, or_false] at hu; rcases hu with rfl | rfl <;> rfl
          case e3 => unfold maxLen; omega
          case e4 => omega
          case e5 => omega
          rintro g cap w7 hown7 hg7 hgd hglt
          have hb7 : Below w0.heap.size w0 w7 := HBW6.out.grown hg7 (HBW6.out.size) (fun x e => (HOC.out.lt x e).1)
          have hown8 : w7.ownsRow w0.heap.size 49 2 (.slice (some ⟨g, 0, none⟩) (n1 + 1) cap) (prmOf (ps.take (k + 1))).length (flt prC2 (prmOf (ps.take (k + 1)))) := by
            rw [HYES.out trivial, HBD.out, List.length_append, ← HN1.out, flt_append, flt_one]
            rw [hs0]
            exact hown7
          have HO8 := Lib.hid hown8
          have HB7 := Lib.hid hb7
          clear hown7 hg7 hb7 hown8
          go_wp2_with fail
          first | go_roundw | refine ⟨?rel, ?measure⟩
          case rel => exact ⟨k + 1, by omega, by go_num, HO8.out, HB7.out⟩
          case measure => simp [intOf]; omega
      · have hq1 : (qk == 11) = false := by simp [hkd]
        have hq2 : (qk != 11) = true := by simp [hkd]
        have HKD := Lib.hid hkd
        clear hkd
        go_wp2_with fail
        try rw [← HAD.out]
        first | go_roundw | refine ⟨?rel, ?measure⟩
        case rel =>
          refine ⟨k + 1, by omega, by go_num, ?_, HBQ.out⟩
          rw [HNO.out HKD.out, ← HN1.out]
          exact HS.out
        case measure => simp [intOf]; omega
    · obtain rfl : k = m := by omega
      have hfin : ps.take k = ps := List.take_of_length_le (by rw [← HM.out]; exact Nat.le_refl _)
      rw [hfin] at hS hn1
      have HRES : Hid (PrmRes ps w (.returned (.slice NA n1 nc)) wq) := Lib.hid ⟨_, rfl, by rw [← hn1]; exact ownMono hS HB0.out.size, HB0.out.trans (hb.mono HB0.out.size)⟩
      clear hS hb hlt hfin hn1 hnk
      go_wp2
      go_ret
      exact HRES.out
end Go.Proofs.Ytiijlecidepneaa
