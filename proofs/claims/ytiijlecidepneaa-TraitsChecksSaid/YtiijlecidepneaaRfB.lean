/-
  The walk of ref11.Type.
  Conditions: the argument reads as a tree.
-/
import Derived.Test.YtiijlecidepneaaSigB
namespace Go.Proofs.Ytiijlecidepneaa
open Go.RowKit

set_option maxHeartbeats 4000000 in
set_option maxRecDepth 100000 in
theorem rtyp_any (t : Tr) : ∀ (v : Value) (w : World), TrIs w (Lt w.heap.size) t v → Calls Try.prog 36 #[trV (t, v)] w (MadeTy (tyOf t) w) := by
  induction t using Tr.ind with | h tk tx ta tks ih => ?_
  intro v w ht
  obtain ⟨A, c, ps, rfl, hkids, _, _, hx, hz, hc, hcm, _, hT⟩ := ht.open_
  simp only [Tr.kids, Tr.text] at hkids hx
  obtain ⟨m, hm⟩ : ∃ m, m = ps.length := ⟨_, rfl⟩
  rw [← hm] at hz hc ⊢
  show Calls _ _ #[.agg #[.int .i64 tk, sv tx, .int .i64 ta, .slice A m c]] _ _
  have HM := Lib.hid hm
  clear hm ht
  obtain ⟨i0, hi, hz0, hz1, hz2⟩ := info_parts infoT
  by_cases hk : tk = 15
  · subst hk
    have HTY : Hid (tyOf (.mk 15 tx ta tks) = .mk tx (ps.map fun p => tyOf p.1)) := Lib.hid (by rw [tyOf_yes, hkids, List.map_map]; rfl)
    have hih : ∀ p ∈ ps, ∀ (v : Value) (w : World), TrIs w (Lt w.heap.size) p.1 v → Calls Try.prog 36 #[trV (p.1, v)] w (MadeTy (tyOf p.1) w) := fun p hp => ih p.1 (by rw [hkids]; exact List.mem_map_of_mem hp)
    have HIH := Lib.hid hih
    clear ih hih hkids
    go_enter Try.func36, Try.ntmps36
    go_wp2_with fail
    go_loopw [4] (fun i wr => ∃ k : Nat, k ≤ m ∧ i = .int .i64 k ∧ OutIs (w.heap.size + 2) tx ((ps.map fun p => tyOf p.1).take k) wr ∧ wr.heap[w.heap.size + 1]? = some (.cells #[.string ⟨#[]⟩, .slice none 0 0] 35 (0, 0)) ∧ wr.heap[w.heap.size]? = some (.cells #[.int .i64 15, sv tx, .int .i64 ta, .slice A m c] 25 (0, 0)) ∧ Below w.heap.size w wr) (fun i _ => m - (intOf i).toNat)
    case atStart =>
      refine ⟨0, Nat.zero_le _, rfl, OutIs.fresh ?_, ?_, ?_, (((Below.refl _ _).alloc (Nat.le_refl _) _).alloc (by simp) _).alloc (by simp; omega) _⟩
      · exact (alloc3 _ _ _ _).2.2
      · exact (alloc3 _ _ _ _).2.1
      · exact (alloc3 _ _ _ _).1
    case round =>
      obtain ⟨k, hk, rfl, ho, hr, hx0, hb⟩ := hrel
      have x3 : wr.cell? ⟨w.heap.size, 3, none⟩ = some (.slice A m c) := (Lib.cell_of_heap hx0 3).trans rfl
      have hlx := lt_of_heap hx0
      have HX0 := Lib.hid hx0
      obtain ⟨ov, vs', ho'⟩ := ho
      have hB := ho'.blk
      have c0 : wr.cell? ⟨w.heap.size + 2, 0, none⟩ = some (sv tx) := by rw [Lib.cell_of_heap hB]; rfl
      have c1 : wr.cell? ⟨w.heap.size + 2, 1, none⟩ = some ov := by rw [Lib.cell_of_heap hB]; rfl
      have f1 : wr.frozen? ⟨w.heap.size + 2, 1, none⟩ = false := Lib.frozen_of_heap hB 1
      by_cases hlt : k < m
      · obtain ⟨q, hq⟩ : ∃ q, ps[k]? = some q := ⟨_, List.getElem?_eq_getElem (by rw [← HM.out]; exact hlt)⟩
        have hqm := List.mem_of_getElem? hq
        have hty : (ps.map fun p => tyOf p.1)[k]? = some (tyOf q.1) := by rw [List.getElem?_map, hq]; rfl
        have hTr := hT.below hb
        obtain ⟨ad, hA, _, a0, a1, a2, a3⟩ := tr_at hTr.row hq
        have hqi := hTr.each k q hq
        obtain ⟨QA, qc, qs, hqv, _⟩ := hqi.open_
        obtain ⟨⟨qk, qx, qa, qks⟩, qv⟩ := q
        simp only [Tr.kind, Tr.text, Tr.at_] at a0 a1 a2 a3 hqv hqi hty
        subst hqv
        obtain ⟨l, hl'⟩ : ∃ l, l = qs.length := ⟨_, rfl⟩
        rw [← hl'] at a3 hqi hqm
        have hcall := HIH.out _ hqm
        have HQI := Lib.hid hqi
        have HTK : Hid ((ps.map fun p => tyOf p.1).take (k + 1) = (ps.map fun p => tyOf p.1).take k ++ [tyOf (.mk qk qx qa qks)]) := Lib.hid (by rw [List.take_add_one, hty]; rfl)
        have hlk : ((ps.map fun p => tyOf p.1).take k).length = k := by rw [List.length_take, List.length_map, ← HM.out]; omega
        have HLK := Lib.hid hlk
        have HCALL := Lib.hid hcall
        have HO := Lib.hid ho'
        have HR := Lib.hid hr
        have hsz := hb.size
        have hlt2 := lt_of_heap hB
        have HBW := Lib.hid hb
        have hik : (0 : Int) ≤ (k : Int) ∧ (k : Int) < (m : Int) := ⟨by omega, by omega⟩
        rw [hA] at x3
        have HC : Hid (AtCells [(⟨w.heap.size + 2, 1, none⟩, ov), (⟨w.heap.size, 3, none⟩, .slice (some ad) m c), (ad.add (k * 4), .int .i64 qk), (⟨(ad.add (k * 4)).block, (ad.add (k * 4)).off + 1, none⟩, sv qx), (⟨(ad.add (k * 4)).block, (ad.add (k * 4)).off + 2, none⟩, .int .i64 qa), (⟨(ad.add (k * 4)).block, (ad.add (k * 4)).off + 3, none⟩, .slice QA l qc)] wr) := Lib.hid ⟨c1, x3, a0, a1, a2, a3, trivial⟩
        rw [hA]
        have HAD := Lib.hid hA
        clear hB ho' hr hq hqm hty hTr hA hqi hl' hcall hlk hb hx0
        go_wp2_with fail
        clear a0 a1 a2 a3 c0 c1 f1 x3
        refine wp_region_held' (AtCells [(⟨w.heap.size + 2, 1, none⟩, ov), (⟨w.heap.size, 3, none⟩, .slice (some ad) m c), (ad.add (k * 4), .int .i64 qk), (⟨(ad.add (k * 4)).block, (ad.add (k * 4)).off + 1, none⟩, sv qx), (⟨(ad.add (k * 4)).block, (ad.add (k * 4)).off + 2, none⟩, .int .i64 qa), (⟨(ad.add (k * 4)).block, (ad.add (k * 4)).off + 3, none⟩, .slice QA l qc)]) [] [0, 1, 2, 3, 4, 5, 6] [7, 8] [9, 10, 11] (by kernel_rfl) (by kernel_rfl) ?s0 ?h0
        case s0 => exact HC.out.below (Below.refl _ wr).drew
        case h0 =>
        simp only [opsAt, List.filterMap_cons, List.filterMap_nil, List.getElem?_toArray, List.getElem?_cons_succ, List.getElem?_cons_zero]
        refine wpFloat_nil ?_
        refine wpLoad_step ?va0 rfl (fun w' hS => ?ya0) ?ka0
        case ya0 =>
          obtain ⟨g0, g1, g2, g3, g4, g5, _⟩ := hS
          go_simp
          try rfl
        case ka0 =>
        go_simp
        refine wpLoad_step ?va1 rfl (fun w' hS => ?ya1) ?ka1
        case ya1 =>
          obtain ⟨g0, g1, g2, g3, g4, g5, _⟩ := hS
          go_simp
          try rfl
        case ka1 =>
        go_simp
        refine wpLoad_step ?va2 rfl (fun w' hS => ?ya2) ?ka2
        case ya2 =>
          obtain ⟨g0, g1, g2, g3, g4, g5, _⟩ := hS
          go_simp
          try rfl
        case ka2 =>
        go_simp
        refine wpLoad_step ?va3 rfl (fun w' hS => ?ya3) ?ka3
        case ya3 =>
          obtain ⟨g0, g1, g2, g3, g4, g5, _⟩ := hS
          go_simp
          try rfl
        case ka3 =>
        go_simp
        refine wpLoad_step ?va4 rfl (fun w' hS => ?ya4) ?ka4
        case ya4 =>
          obtain ⟨g0, g1, g2, g3, g4, g5, _⟩ := hS
          go_simp
          try rfl
        case ka4 =>
        go_simp
        refine wpLoad_step ?va5 rfl (fun w' hS => ?ya5) ?ka5
        case ya5 =>
          obtain ⟨g0, g1, g2, g3, g4, g5, _⟩ := hS
          go_simp
          try rfl
        case ka5 =>
        go_simp
        refine wpLoad_step ?va6 rfl (fun w' hS => ?ya6) ?ka6
        case ya6 =>
          obtain ⟨g0, g1, g2, g3, g4, g5, _⟩ := hS
          go_simp
          try rfl
        case ka6 =>
        go_simp
        refine wpLoad_nil ?_
        refine wpKeep_step rfl ?_
        go_simp
        refine (HCALL.out _ wr.drew (HQI.out.under ((Below.refl _ wr).drew))).mono ?_
        rintro e w1 ⟨u1, v1, rfl, hT1, hb1⟩
        obtain ⟨u1, v1, rfl, rfl⟩ := hT1.shape
        have hb1 : Below wr.heap.size wr w1 := (Below.refl _ wr).drew.trans hb1
        have hs1 := hb1.size
        have HT1 := Lib.hid hT1
        have HB1 := Lib.hid hb1
        clear hT1 hb1
        refine ⟨HC.out.below HB1.out, ?_⟩
        refine wpKeep_step rfl ?_
        go_simp
        have hbW : Below wr.heap.size wr (w1.alloc (.cells #[sv u1, .slice v1.1 v1.2.1 v1.2.2] 35)) := HB1.out.alloc HB1.out.size _
        refine ⟨HC.out.below hbW, ?_⟩
        refine wpKeep_nil ?_
        have hO2 := HO.out.kept (grownOfBelow hbW) (.inl rfl)
        have hown2 := hO2.own
        rw [HLK.out] at hown2
        have HO2 := Lib.hid hO2
        have HBWW := Lib.hid hbW
        have HW2 := Lib.hid hown2
        clear hO2 hbW hown2
        refine (wpList_append_lies _ rfl _ _ 33 rfl (w.heap.size + 2 + 1) 35 i0 _ 2 40 Try.underlying33 hi hz0 hz1 hz2 rfl (by omega) ov k (flat2 vs') rfl HW2.out ⟨w1.heap.size, 0, none⟩ 1 1 [sv u1, .slice v1.1 v1.2.1 v1.2.2] rfl rfl ?c1 ?c2 (by omega) ?c3 ?c4 ?c5 _ rfl ?_)
        case c1 => exact World.news_of_block (cs := #[sv u1, .slice v1.1 v1.2.1 v1.2.2]) (alloc1 w1 _)
        case c2 => simp [Value.oneCell']
        case c3 => unfold maxLen; omega
        case c4 => omega
        case c5 => simp; omega
        intro g cap w3 hown3 hgrow hat _
        have hown2 := HW2.out
        have hb2 := (hgrow.block (w.heap.size + 2) (by simp; omega) (fun e => by have := (hown2.lt _ e.symm).1; omega)).trans HO2.out.blk
        have d1 : w3.cell? ⟨w.heap.size + 2, 1, none⟩ = some ov := by rw [Lib.cell_of_heap hb2]; rfl
        have f2 : w3.frozen? ⟨w.heap.size + 2, 1, none⟩ = false := Lib.frozen_of_heap hb2 1
        have HN : Hid (OutIs (w.heap.size + 2) tx ((ps.map fun p => tyOf p.1).take (k + 1)) (w3.setCell ⟨w.heap.size + 2, 1, none⟩ (.slice (some ⟨g, 0, none⟩) (k + 1) cap))) := by
          rw [HTK.out]
          have := Lib.hid (HO2.out.push (t := tyOf (.mk qk qx qa qks)) (u := sv u1) (v := .slice v1.1 v1.2.1 v1.2.2) (w' := w3) (g := g) (cap := cap) ?_ (by rw [HLK.out]; exact hown3) hgrow hat)
          · rw [HLK.out] at this
            exact this
          · refine (HT1.out.keep (keptGrown (World.grownBy_alloc w1 _ none) fun x hx => ⟨hx.2, by simp⟩)).more fun x hx => ⟨?_, ?_, ?_⟩
            · have h1 : wr.heap.size ≤ x := hx.1
              omega
            · have := hx.2; simp; omega
            · intro e
              have := (HO.out.own.lt x e.symm).2
              have h5 : wr.heap.size ≤ x := hx.1
              omega
        have hb3 : Below w.heap.size w w3 := (HBW.out.trans (HBWW.out.mono hsz)).grown hgrow (by simp; omega) (fun x e => by have := (hown2.lt _ e).1; omega)
        have hr3 : w3.heap[w.heap.size + 1]? = some (.cells #[.string ⟨#[]⟩, .slice none 0 0] 35 (0, 0)) := by
          rw [hgrow.block (w.heap.size + 1) (by simp; omega) (fun e => by have := (hown2.lt _ e.symm).1; omega), HBWW.out.block _ (by omega)]
          exact HR.out
        have hx3 : w3.heap[w.heap.size]? = some (.cells #[.int .i64 15, sv tx, .int .i64 ta, .slice (some ad) m c] 25 (0, 0)) := by
          rw [hgrow.block (w.heap.size) (by simp; omega) (fun e => by have := (hown2.lt _ e.symm).1; omega), HBWW.out.block _ (by omega), ← HAD.out]
          exact HX0.out
        have HX3 := Lib.hid hx3
        clear hx3
        have HR3 := Lib.hid hr3
        have HB3 := Lib.hid hb3
        clear hb2 hr3 hb3 hown2 hown3 hgrow hat
        go_wp2
        refine NoPanic.normal ?_
        clear d1 f2
        go_wp2
        try rw [← HAD.out]
        first | go_roundw | refine ⟨?rel, ?measure⟩
        case rel =>
          refine ⟨k + 1, by omega, by go_num, HN.out, ?_, ?_, ?_⟩
          · rw [Below.heap_setCell _ _ _ _ (by simp)]
            exact HR3.out
          · rw [Below.heap_setCell _ _ _ _ (by simp; omega)]
            have h := HX3.out
            rw [← HAD.out] at h
            exact h
          · exact HB3.out.setCell (by simp; omega) _
        case measure => simp [intOf]; omega
      · obtain ⟨ov, rfl⟩ := ho'.shape
        have r0 : wr.cell? ⟨w.heap.size + 1, 0, none⟩ = some (.string ⟨#[]⟩) := by rw [Lib.cell_of_heap hr]; rfl
        have r1 : wr.cell? ⟨w.heap.size + 1, 1, none⟩ = some (.slice none 0 0) := by rw [Lib.cell_of_heap hr]; rfl
        have g0 : wr.frozen? ⟨w.heap.size + 1, 0, none⟩ = false := Lib.frozen_of_heap hr 0
        have g1 : wr.frozen? ⟨w.heap.size + 1, 1, none⟩ = false := Lib.frozen_of_heap hr 1
        obtain rfl : k = m := by omega
        have HO := Lib.hid ho'
        have HR := Lib.hid hr
        have HBW := Lib.hid hb
        clear hB ho' hr hb hlt hx0
        go_wp2_with fail
        have hR2 : ((wr.setCell ⟨w.heap.size + 1, 0, none⟩ (.string (bs tx))).setCell ⟨w.heap.size + 1, 1, none⟩ (.slice ov.1 ov.2.1 ov.2.2)).heap[w.heap.size + 1]? = some (.cells #[sv tx, .slice ov.1 ov.2.1 ov.2.2] 35 (0, 0)) := setCell_heap (setCell_heap HR.out)
        have q0 : ((wr.setCell ⟨w.heap.size + 1, 0, none⟩ (.string (bs tx))).setCell ⟨w.heap.size + 1, 1, none⟩ (.slice ov.1 ov.2.1 ov.2.2)).cell? ⟨w.heap.size + 1, 0, none⟩ = some (sv tx) := by rw [Lib.cell_of_heap hR2]; rfl
        have q1 : ((wr.setCell ⟨w.heap.size + 1, 0, none⟩ (.string (bs tx))).setCell ⟨w.heap.size + 1, 1, none⟩ (.slice ov.1 ov.2.1 ov.2.2)).cell? ⟨w.heap.size + 1, 1, none⟩ = some (.slice ov.1 ov.2.1 ov.2.2) := by rw [Lib.cell_of_heap hR2]; rfl
        refine bodyPost_ret (v := .agg #[sv tx, .slice ov.1 ov.2.1 ov.2.2]) ?_ rfl ?_
        · clear HO HR hT hR2 HIH HTY HBW
          simp [results, Try.results36, go_sem, q0, q1]
        · have hx' : (ps.map fun p => tyOf p.1).take k = ps.map fun p => tyOf p.1 := List.take_of_length_le (by rw [List.length_map, ← HM.out]; exact Nat.le_refl _)
          have hd := HO.out
          rw [hx'] at hd
          have hD := hd.done hx (by rw [List.length_map, ← HM.out]; exact hz)
          have hlt3 := lt_of_heap hd.blk
          rw [← HTY.out] at hD
          refine ⟨_, _, rfl, ?_, (HBW.out.setCell (by simp) _).setCell (by simp) _⟩
          refine (hD.keep (Kept.trans (keptGrown (row := some (w.heap.size + 1)) grownSet fun x hx => ⟨hx.2, ?_⟩) (keptGrown (row := some (w.heap.size + 1)) grownSet fun x hx => ⟨by rw [sizeSet]; exact hx.2, ?_⟩))).more fun x hx => ⟨?_, ?_⟩
          · intro e; injection e; omega
          · intro e; injection e; omega
          · have := hx.1; omega
          · rw [sizeSet, sizeSet]; exact hx.2
  · rw [tyOf_no _ _ _ hk]
    have hq1 : (tk == 15) = false := by simp [hk]
    have hq2 : (tk != 15) = true := by simp [hk]
    clear ih hkids
    have hb3 := ((Below.refl w.heap.size w).alloc (Nat.le_refl _) (.cells #[.int .i64 tk, sv tx, .int .i64 ta, .slice A m c] 25)).alloc (by simp) (.cells #[.string ⟨#[101, 114, 114, 111, 114]⟩, .slice none 0 0] 35)
    have hx3 := (alloc2 w (.cells #[.int .i64 tk, sv tx, .int .i64 ta, .slice A m c] 25) (.cells #[.string ⟨#[101, 114, 114, 111, 114]⟩, .slice none 0 0] 35)).2
    obtain ⟨w3, hw3⟩ : ∃ w3, w3 = (w.alloc (.cells #[.int .i64 tk, sv tx, .int .i64 ta, .slice A m c] 25)).alloc (.cells #[.string ⟨#[101, 114, 114, 111, 114]⟩, .slice none 0 0] 35) := ⟨_, rfl⟩
    rw [← hw3] at hb3 hx3
    have HW3 := Lib.hid hw3
    have HB3 := Lib.hid hb3
    have q0 : w3.cell? ⟨w.heap.size + 1, 0, none⟩ = some (.string ⟨#[101, 114, 114, 111, 114]⟩) := (Lib.cell_of_heap hx3 0).trans rfl
    have q1 : w3.cell? ⟨w.heap.size + 1, 1, none⟩ = some (.slice none 0 0) := (Lib.cell_of_heap hx3 1).trans rfl
    have HQ := Lib.hid (And.intro q0 q1)
    clear hw3 hb3 hx3 q0 q1 hT hk hx
    go_enter Try.func36, Try.ntmps36
    go_wp2_with fail
    rw [← HW3.out]
    obtain ⟨q0, q1⟩ := HQ.out
    refine bodyPost_ret (v := .agg #[.string ⟨#[101, 114, 114, 111, 114]⟩, .slice none 0 0]) ?_ rfl ⟨_, _, rfl, errTy_is _ _, HB3.out⟩
    clear HW3 HQ HB3
    simp [results, Try.results36, go_sem, q0, q1]
end Go.Proofs.Ytiijlecidepneaa
