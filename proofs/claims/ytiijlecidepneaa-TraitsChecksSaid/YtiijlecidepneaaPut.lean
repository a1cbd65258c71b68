/-
  The walk of types.Put without names: a type in new memory.
  Conditions: the argument reads as a type.
-/
import Derived.Test.YtiijlecidepneaaClone
namespace Go.Proofs.Ytiijlecidepneaa
open Go.RowKit

set_option maxHeartbeats 2000000 in
set_option maxRecDepth 100000 in
theorem put_any (t : Ty) : ∀ (u v : Value) (NA : Option Addr) (NC : Nat) (w : World), TyIs w (Lt w.heap.size) t u v → Calls Try.prog 32 #[.agg #[u, v], .slice NA 0 NC, .slice none 0 0] w (MadeTy t w) := by
  induction t using Ty.ind with | h n ks ih => ?_
  intro u v NA NC w ht
  obtain ⟨A, c, vs, rfl, rfl, hn, hz, hc1, hc2, hT⟩ := ht.open_
  simp only [Ty.name, Ty.args] at hn hz hc1 hT ⊢
  obtain ⟨m, hm⟩ : ∃ m, m = ks.length := ⟨_, rfl⟩
  rw [← hm]
  rw [← hm] at hz hc1
  have HM := Lib.hid hm
  clear hm ht
  obtain ⟨i0, hi, hz0, hz1, hz2⟩ := info_parts infoT
  obtain ⟨x, b, hpw⟩ : ∃ x b, parW n m = (x, b) := ⟨_, _, rfl⟩
  have HPW := Lib.hid hpw
  clear hpw
  go_enter Try.func32, Try.ntmps32
  go_wp2_with fail
  refine (parameter_any n A m c _ hz).mono ?_
  rw [HPW.out]
  rintro e w1 ⟨rfl, hb1⟩
  have hb2 : Below w.heap.size w ((w.alloc (.cells #[sv n, .slice A m c] 35)).alloc (.cells #[.string ⟨#[]⟩, .slice none 0 0] 35)) := ((Below.refl _ _).alloc (Nat.le_refl _) _).alloc (by simp) _
  have hb3 : Below w.heap.size w w1 := hb2.trans (hb1.mono (by simp; omega))
  have hq := alloc2 w (.cells #[sv n, .slice A m c] 35) (.cells #[.string ⟨#[]⟩, .slice none 0 0] 35)
  have hq1 := (hb1.block w.heap.size (by simp; omega)).trans hq.1
  have hq2 := (hb1.block (w.heap.size + 1) (by simp)).trans hq.2
  have t0 : w1.cell? ⟨w.heap.size, 0, none⟩ = some (sv n) := by rw [Lib.cell_of_heap hq1]; rfl
  have t1 : w1.cell? ⟨w.heap.size, 1, none⟩ = some (.slice A m c) := by rw [Lib.cell_of_heap hq1]; rfl
  have hsz1 : w.heap.size + 1 < w1.heap.size := lt_of_heap hq2
  have HQ2 := Lib.hid hq2
  clear hq hq1 hq2
  have t1' : (w1.alloc (.cells #[.string (bs n), .slice none 0 0] 35)).cell? ⟨w.heap.size, 1, none⟩ = some (.slice A m c) := (cellAlloc (by omega)).trans t1
  cases b with
  | false =>
    go_wp2_with fail
    go_loopw [41] (fun i wr => ∃ k : Nat, k ≤ m ∧ i = .int .i64 k ∧ OutIs w1.heap.size n (ks.take k) wr ∧ Below w1.heap.size w1 wr) (fun i _ => m - (intOf i).toNat)
    case atStart => exact ⟨0, Nat.zero_le _, rfl, OutIs.fresh (alloc1 _ _), (Below.refl _ _).alloc (Nat.le_refl _) _⟩
    case round =>
      obtain ⟨k, hk, rfl, ho, hbr⟩ := hrel
      obtain ⟨ov, vs', ho'⟩ := ho
      have hB := ho'.blk
      obtain ⟨ov, rfl⟩ := ho'.shape
      have hb : Below w.heap.size w wr := hb3.trans (hbr.mono hb3.size)
      have hr : wr.heap[w.heap.size + 1]? = some (.cells #[.string ⟨#[]⟩, .slice none 0 0] 35 (0, 0)) := (hbr.block _ hsz1).trans HQ2.out
      have c0 : wr.cell? ⟨w1.heap.size, 0, none⟩ = some (sv n) := by rw [Lib.cell_of_heap hB]; rfl
      have c1 : wr.cell? ⟨w1.heap.size, 1, none⟩ = some (.slice ov.1 ov.2.1 ov.2.2) := by rw [Lib.cell_of_heap hB]; rfl
      have f1 : wr.frozen? ⟨w1.heap.size, 1, none⟩ = false := Lib.frozen_of_heap hB 1
      have hsr := hbr.size
      have hlt2 := lt_of_heap hB
      have HO := Lib.hid ho'
      have HR := Lib.hid hr
      by_cases hlt : k < m
      · have hki : k < ks.length := by rw [← HM.out]; exact hlt
        obtain ⟨ad, u, v, rfl, hS, e0, e1, hty⟩ := (hT.keep (kept_below hb)).at_ (List.getElem?_eq_getElem hki)
        obtain ⟨u, v, rfl, rfl⟩ := hty.shape
        have hsz := hb.size
        clear hB ho' hr
        go_wp2_with fail
        refine wp_region_held' (fun w' => w'.cell? ⟨w1.heap.size, 1, none⟩ = some (.slice ov.1 ov.2.1 ov.2.2) ∧ w'.cell? ⟨wr.heap.size, 0, none⟩ = some (sv u) ∧ w'.cell? ⟨wr.heap.size, 1, none⟩ = some (.slice v.1 v.2.1 v.2.2)) [] [0, 1, 2, 3, 4] [5, 6] [7, 8, 9] (by kernel_rfl) (by kernel_rfl) ?s0a ?h0a
        case s0a => exact ⟨(cellAlloc hlt2).trans c1, by simp, by simp⟩
        case h0a =>
        simp only [opsAt, List.filterMap_cons, List.filterMap_nil, List.getElem?_toArray, List.getElem?_cons_succ, List.getElem?_cons_zero]
        refine wpFloat_nil ?_
        refine wpLoad_step ?vpa0 rfl (fun w' hS => ?ypa0) ?kpa0
        case ypa0 =>
          obtain ⟨h1, h2, h3⟩ := hS
          go_simp
          try rfl
        case kpa0 =>
        go_simp
        refine wpLoad_step ?vpa1 rfl (fun w' hS => ?ypa1) ?kpa1
        case ypa1 =>
          obtain ⟨h1, h2, h3⟩ := hS
          go_simp
          try rfl
        case kpa1 =>
        go_simp
        refine wpLoad_step ?vpa2 rfl (fun w' hS => ?ypa2) ?kpa2
        case ypa2 =>
          obtain ⟨h1, h2, h3⟩ := hS
          go_simp
          try rfl
        case kpa2 =>
        go_simp
        refine wpLoad_step ?vpa3 rfl (fun w' hS => ?ypa3) ?kpa3
        case ypa3 =>
          obtain ⟨h1, h2, h3⟩ := hS
          go_simp
          try rfl
        case kpa3 =>
        go_simp
        refine wpLoad_step ?vpa4 rfl (fun w' hS => ?ypa4) ?kpa4
        case ypa4 =>
          obtain ⟨h1, h2, h3⟩ := hS
          go_simp
          try rfl
        case kpa4 =>
        go_simp
        refine wpLoad_nil ?_
        refine wpKeep_step rfl ?_
        go_simp
        refine (ih ks[k] (List.getElem_mem hki) _ _ NA NC _ (hty.now hsz (((Below.refl _ _).alloc (Nat.le_refl _) _).drew))).mono ?_
        rintro e w4 ⟨u1, v1, rfl, hT1, hb4⟩
        obtain ⟨u1, v1, rfl, rfl⟩ := hT1.shape
        obtain ⟨hc, hf⟩ := belowCell hb4
        have hzw : wr.heap.size + 1 ≤ w4.heap.size := by have := hb4.size; simpa using this
        have HT1 := Lib.hid hT1
        clear hT1
        have d1 : w4.cell? ⟨w1.heap.size, 1, none⟩ = some (.slice ov.1 ov.2.1 ov.2.2) := (hc _ _ (by simp; omega)).trans ((cellAlloc hlt2).trans c1)
        have d2 : w4.cell? ⟨wr.heap.size, 0, none⟩ = some (sv u) := by rw [hc _ _ (by simp)]; simp
        have d3 : w4.cell? ⟨wr.heap.size, 1, none⟩ = some (.slice v.1 v.2.1 v.2.2) := by rw [hc _ _ (by simp)]; simp
        refine ⟨⟨d1, d2, d3⟩, ?_⟩
        refine wpKeep_step rfl ?_
        go_simp
        refine ⟨⟨(cellAlloc (by omega)).trans d1, (cellAlloc (by omega)).trans d2, (cellAlloc (by omega)).trans d3⟩, ?_⟩
        refine wpKeep_nil ?_
        have hbW : Below wr.heap.size wr (w4.alloc (.cells #[sv u1, .slice v1.1 v1.2.1 v1.2.2] 35)) := (((((Below.refl _ _).alloc (Nat.le_refl _) _).drew).trans (hb4.mono (by simp)))).alloc (by omega) _
        have hO2 := HO.out.kept (grownOfBelow hbW) (.inl rfl)
        have hlk : (ks.take k).length = k := by rw [List.length_take]; omega
        have hown2 := hO2.own
        rw [hlk] at hown2
        have HO2 := Lib.hid hO2
        have HLK := Lib.hid hlk
        clear hO2 hlk
        refine wpList_append_lies _ rfl _ _ 33 rfl (w1.heap.size + 1) 35 i0 _ 2 40 Try.underlying33 hi hz0 hz1 hz2 rfl (by omega) _ k (flat2 vs') rfl hown2 ⟨w4.heap.size, 0, none⟩ 1 1 [sv u1, .slice v1.1 v1.2.1 v1.2.2] rfl rfl ?c1a ?c2a (by omega) ?c3a ?c4a ?c5a _ rfl ?_
        case c1a => exact World.news_of_block (cs := #[sv u1, .slice v1.1 v1.2.1 v1.2.2]) (alloc1 w4 _)
        case c2a => simp [Value.oneCell']
        case c3a => unfold maxLen; omega
        case c4a => omega
        case c5a => simp; omega
        intro g cap w5 hown3 hgrow hat _
        have hk1 : ks[k]? = some ks[k] := List.getElem?_eq_getElem hki
        have hb2 := (hgrow.block w1.heap.size (by simp; omega) (fun e => by have := (hown2.lt _ e.symm).1; omega)).trans HO2.out.blk
        have d1 : w5.cell? ⟨w1.heap.size, 1, none⟩ = some (.slice ov.1 ov.2.1 ov.2.2) := by rw [Lib.cell_of_heap hb2]; rfl
        have f2 : w5.frozen? ⟨w1.heap.size, 1, none⟩ = false := Lib.frozen_of_heap hb2 1
        have HN : Hid (OutIs w1.heap.size n (ks.take k ++ [ks[k]]) (w5.setCell ⟨w1.heap.size, 1, none⟩ (.slice (some ⟨g, 0, none⟩) (k + 1) cap))) := by
          have := Lib.hid (HO2.out.push (t := ks[k]) (u := sv u1) (v := .slice v1.1 v1.2.1 v1.2.2) (w' := w5) (g := g) (cap := cap) ?_ (by rw [HLK.out]; exact hown3) hgrow hat)
          · rw [HLK.out] at this
            exact this
          · refine (HT1.out.keep (keptGrown (World.grownBy_alloc w4 _ none) fun x hx => ⟨hx.2, by simp⟩)).more fun x hx => ⟨?_, ?_, ?_⟩
            · have := hx.1; simp at this; omega
            · have := hx.2; simp; omega
            · intro e
              have := (HO.out.own.lt x e.symm).2
              have h5 := hx.1
              simp at h5
              omega
        have hb5 : Below w1.heap.size w1 w5 := (hbr.trans (hbW.mono hsr)).grown hgrow (by simp; omega) (fun x e => by have := (hown2.lt _ e).1; omega)
        clear hb2
        go_wp2
        refine NoPanic.normal ?_
        go_wp2
        go_roundw
        case rel =>
          refine ⟨k + 1, by omega, by go_num, ?_, ?_⟩
          · have := HN.out
            rw [List.take_add_one, hk1]
            exact this
          · exact hb5.setCell (Nat.le_refl _) _
        case measure => simp [intOf]; omega
      · have r0 : wr.cell? ⟨w.heap.size + 1, 0, none⟩ = some (.string ⟨#[]⟩) := by rw [Lib.cell_of_heap hr]; rfl
        have r1 : wr.cell? ⟨w.heap.size + 1, 1, none⟩ = some (.slice none 0 0) := by rw [Lib.cell_of_heap hr]; rfl
        have g0 : wr.frozen? ⟨w.heap.size + 1, 0, none⟩ = false := Lib.frozen_of_heap hr 0
        have g1 : wr.frozen? ⟨w.heap.size + 1, 1, none⟩ = false := Lib.frozen_of_heap hr 1
        clear hB ho' hr
        go_wp2_with fail
        have hR2 : ((wr.setCell ⟨w.heap.size + 1, 0, none⟩ (.string (bs n))).setCell ⟨w.heap.size + 1, 1, none⟩ (.slice ov.1 ov.2.1 ov.2.2)).heap[w.heap.size + 1]? = some (.cells #[sv n, .slice ov.1 ov.2.1 ov.2.2] 35 (0, 0)) := setCell_heap (setCell_heap HR.out)
        have q0 : ((wr.setCell ⟨w.heap.size + 1, 0, none⟩ (.string (bs n))).setCell ⟨w.heap.size + 1, 1, none⟩ (.slice ov.1 ov.2.1 ov.2.2)).cell? ⟨w.heap.size + 1, 0, none⟩ = some (sv n) := by rw [Lib.cell_of_heap hR2]; rfl
        have q1 : ((wr.setCell ⟨w.heap.size + 1, 0, none⟩ (.string (bs n))).setCell ⟨w.heap.size + 1, 1, none⟩ (.slice ov.1 ov.2.1 ov.2.2)).cell? ⟨w.heap.size + 1, 1, none⟩ = some (.slice ov.1 ov.2.1 ov.2.2) := by rw [Lib.cell_of_heap hR2]; rfl
        refine bodyPost_ret (v := .agg #[sv n, .slice ov.1 ov.2.1 ov.2.2]) ?_ rfl ?_
        · clear HO HR hT hb hR2 ih
          simp [results, Try.results32, go_sem, q0, q1]
        · obtain rfl : k = m := by omega
          have hx : ks.take k = ks := List.take_of_length_le (by rw [← HM.out]; exact Nat.le_refl _)
          have hd := HO.out
          rw [hx] at hd
          have hD := hd.done hn (by rw [← HM.out]; exact hz)
          have hlt3 := lt_of_heap hd.blk
          refine ⟨_, _, rfl, ?_, (hb.setCell (by simp) _).setCell (by simp) _⟩
          refine (hD.keep (Kept.trans (keptGrown (row := some (w.heap.size + 1)) grownSet fun x hx => ⟨hx.2, ?_⟩) (keptGrown (row := some (w.heap.size + 1)) grownSet fun x hx => ⟨by rw [sizeSet]; exact hx.2, ?_⟩))).more fun x hx => ⟨?_, ?_⟩
          · intro e; injection e; omega
          · intro e; injection e; omega
          · have := hx.1; omega
          · rw [sizeSet, sizeSet]; exact hx.2
  | true =>
    go_wp2_with fail
    refine (index_any NA NC (fun _ => True) [] x _ (Row.nil _ _ _) (Nat.zero_le _)).mono ?_
    rintro e w2 ⟨rfl, rfl⟩
    go_wp2_with fail
    go_loopw [41] (fun i wr => ∃ k : Nat, k ≤ m ∧ i = .int .i64 k ∧ OutIs w1.heap.size n (ks.take k) wr ∧ Below w1.heap.size w1 wr) (fun i _ => m - (intOf i).toNat)
    case atStart => exact ⟨0, Nat.zero_le _, rfl, OutIs.fresh (alloc1 _ _), (Below.refl _ _).alloc (Nat.le_refl _) _⟩
    case round =>
      obtain ⟨k, hk, rfl, ho, hbr⟩ := hrel
      obtain ⟨ov, vs', ho'⟩ := ho
      have hB := ho'.blk
      obtain ⟨ov, rfl⟩ := ho'.shape
      have hb : Below w.heap.size w wr := hb3.trans (hbr.mono hb3.size)
      have hr : wr.heap[w.heap.size + 1]? = some (.cells #[.string ⟨#[]⟩, .slice none 0 0] 35 (0, 0)) := (hbr.block _ hsz1).trans HQ2.out
      have c0 : wr.cell? ⟨w1.heap.size, 0, none⟩ = some (sv n) := by rw [Lib.cell_of_heap hB]; rfl
      have c1 : wr.cell? ⟨w1.heap.size, 1, none⟩ = some (.slice ov.1 ov.2.1 ov.2.2) := by rw [Lib.cell_of_heap hB]; rfl
      have f1 : wr.frozen? ⟨w1.heap.size, 1, none⟩ = false := Lib.frozen_of_heap hB 1
      have hsr := hbr.size
      have hlt2 := lt_of_heap hB
      have HO := Lib.hid ho'
      have HR := Lib.hid hr
      by_cases hlt : k < m
      · have hki : k < ks.length := by rw [← HM.out]; exact hlt
        obtain ⟨ad, u, v, rfl, hS, e0, e1, hty⟩ := (hT.keep (kept_below hb)).at_ (List.getElem?_eq_getElem hki)
        obtain ⟨u, v, rfl, rfl⟩ := hty.shape
        have hsz := hb.size
        clear hB ho' hr
        go_wp2_with fail
        refine wp_region_held' (fun w' => w'.cell? ⟨w1.heap.size, 1, none⟩ = some (.slice ov.1 ov.2.1 ov.2.2) ∧ w'.cell? ⟨wr.heap.size, 0, none⟩ = some (sv u) ∧ w'.cell? ⟨wr.heap.size, 1, none⟩ = some (.slice v.1 v.2.1 v.2.2)) [] [0, 1, 2, 3, 4] [5, 6] [7, 8, 9] (by kernel_rfl) (by kernel_rfl) ?s0b ?h0b
        case s0b => exact ⟨(cellAlloc hlt2).trans c1, by simp, by simp⟩
        case h0b =>
        simp only [opsAt, List.filterMap_cons, List.filterMap_nil, List.getElem?_toArray, List.getElem?_cons_succ, List.getElem?_cons_zero]
        refine wpFloat_nil ?_
        refine wpLoad_step ?vpb0 rfl (fun w' hS => ?ypb0) ?kpb0
        case ypb0 =>
          obtain ⟨h1, h2, h3⟩ := hS
          go_simp
          try rfl
        case kpb0 =>
        go_simp
        refine wpLoad_step ?vpb1 rfl (fun w' hS => ?ypb1) ?kpb1
        case ypb1 =>
          obtain ⟨h1, h2, h3⟩ := hS
          go_simp
          try rfl
        case kpb1 =>
        go_simp
        refine wpLoad_step ?vpb2 rfl (fun w' hS => ?ypb2) ?kpb2
        case ypb2 =>
          obtain ⟨h1, h2, h3⟩ := hS
          go_simp
          try rfl
        case kpb2 =>
        go_simp
        refine wpLoad_step ?vpb3 rfl (fun w' hS => ?ypb3) ?kpb3
        case ypb3 =>
          obtain ⟨h1, h2, h3⟩ := hS
          go_simp
          try rfl
        case kpb3 =>
        go_simp
        refine wpLoad_step ?vpb4 rfl (fun w' hS => ?ypb4) ?kpb4
        case ypb4 =>
          obtain ⟨h1, h2, h3⟩ := hS
          go_simp
          try rfl
        case kpb4 =>
        go_simp
        refine wpLoad_nil ?_
        refine wpKeep_step rfl ?_
        go_simp
        refine (ih ks[k] (List.getElem_mem hki) _ _ NA NC _ (hty.now hsz (((Below.refl _ _).alloc (Nat.le_refl _) _).drew))).mono ?_
        rintro e w4 ⟨u1, v1, rfl, hT1, hb4⟩
        obtain ⟨u1, v1, rfl, rfl⟩ := hT1.shape
        obtain ⟨hc, hf⟩ := belowCell hb4
        have hzw : wr.heap.size + 1 ≤ w4.heap.size := by have := hb4.size; simpa using this
        have HT1 := Lib.hid hT1
        clear hT1
        have d1 : w4.cell? ⟨w1.heap.size, 1, none⟩ = some (.slice ov.1 ov.2.1 ov.2.2) := (hc _ _ (by simp; omega)).trans ((cellAlloc hlt2).trans c1)
        have d2 : w4.cell? ⟨wr.heap.size, 0, none⟩ = some (sv u) := by rw [hc _ _ (by simp)]; simp
        have d3 : w4.cell? ⟨wr.heap.size, 1, none⟩ = some (.slice v.1 v.2.1 v.2.2) := by rw [hc _ _ (by simp)]; simp
        refine ⟨⟨d1, d2, d3⟩, ?_⟩
        refine wpKeep_step rfl ?_
        go_simp
        refine ⟨⟨(cellAlloc (by omega)).trans d1, (cellAlloc (by omega)).trans d2, (cellAlloc (by omega)).trans d3⟩, ?_⟩
        refine wpKeep_nil ?_
        have hbW : Below wr.heap.size wr (w4.alloc (.cells #[sv u1, .slice v1.1 v1.2.1 v1.2.2] 35)) := (((((Below.refl _ _).alloc (Nat.le_refl _) _).drew).trans (hb4.mono (by simp)))).alloc (by omega) _
        have hO2 := HO.out.kept (grownOfBelow hbW) (.inl rfl)
        have hlk : (ks.take k).length = k := by rw [List.length_take]; omega
        have hown2 := hO2.own
        rw [hlk] at hown2
        have HO2 := Lib.hid hO2
        have HLK := Lib.hid hlk
        clear hO2 hlk
        refine wpList_append_lies _ rfl _ _ 33 rfl (w1.heap.size + 1) 35 i0 _ 2 40 Try.underlying33 hi hz0 hz1 hz2 rfl (by omega) _ k (flat2 vs') rfl hown2 ⟨w4.heap.size, 0, none⟩ 1 1 [sv u1, .slice v1.1 v1.2.1 v1.2.2] rfl rfl ?c1b ?c2b (by omega) ?c3b ?c4b ?c5b _ rfl ?_
        case c1b => exact World.news_of_block (cs := #[sv u1, .slice v1.1 v1.2.1 v1.2.2]) (alloc1 w4 _)
        case c2b => simp [Value.oneCell']
        case c3b => unfold maxLen; omega
        case c4b => omega
        case c5b => simp; omega
        intro g cap w5 hown3 hgrow hat _
        have hk1 : ks[k]? = some ks[k] := List.getElem?_eq_getElem hki
        have hb2 := (hgrow.block w1.heap.size (by simp; omega) (fun e => by have := (hown2.lt _ e.symm).1; omega)).trans HO2.out.blk
        have d1 : w5.cell? ⟨w1.heap.size, 1, none⟩ = some (.slice ov.1 ov.2.1 ov.2.2) := by rw [Lib.cell_of_heap hb2]; rfl
        have f2 : w5.frozen? ⟨w1.heap.size, 1, none⟩ = false := Lib.frozen_of_heap hb2 1
        have HN : Hid (OutIs w1.heap.size n (ks.take k ++ [ks[k]]) (w5.setCell ⟨w1.heap.size, 1, none⟩ (.slice (some ⟨g, 0, none⟩) (k + 1) cap))) := by
          have := Lib.hid (HO2.out.push (t := ks[k]) (u := sv u1) (v := .slice v1.1 v1.2.1 v1.2.2) (w' := w5) (g := g) (cap := cap) ?_ (by rw [HLK.out]; exact hown3) hgrow hat)
          · rw [HLK.out] at this
            exact this
          · refine (HT1.out.keep (keptGrown (World.grownBy_alloc w4 _ none) fun x hx => ⟨hx.2, by simp⟩)).more fun x hx => ⟨?_, ?_, ?_⟩
            · have := hx.1; simp at this; omega
            · have := hx.2; simp; omega
            · intro e
              have := (HO.out.own.lt x e.symm).2
              have h5 := hx.1
              simp at h5
              omega
        have hb5 : Below w1.heap.size w1 w5 := (hbr.trans (hbW.mono hsr)).grown hgrow (by simp; omega) (fun x e => by have := (hown2.lt _ e).1; omega)
        clear hb2
        go_wp2
        refine NoPanic.normal ?_
        go_wp2
        go_roundw
        case rel =>
          refine ⟨k + 1, by omega, by go_num, ?_, ?_⟩
          · have := HN.out
            rw [List.take_add_one, hk1]
            exact this
          · exact hb5.setCell (Nat.le_refl _) _
        case measure => simp [intOf]; omega
      · have r0 : wr.cell? ⟨w.heap.size + 1, 0, none⟩ = some (.string ⟨#[]⟩) := by rw [Lib.cell_of_heap hr]; rfl
        have r1 : wr.cell? ⟨w.heap.size + 1, 1, none⟩ = some (.slice none 0 0) := by rw [Lib.cell_of_heap hr]; rfl
        have g0 : wr.frozen? ⟨w.heap.size + 1, 0, none⟩ = false := Lib.frozen_of_heap hr 0
        have g1 : wr.frozen? ⟨w.heap.size + 1, 1, none⟩ = false := Lib.frozen_of_heap hr 1
        clear hB ho' hr
        go_wp2_with fail
        have hR2 : ((wr.setCell ⟨w.heap.size + 1, 0, none⟩ (.string (bs n))).setCell ⟨w.heap.size + 1, 1, none⟩ (.slice ov.1 ov.2.1 ov.2.2)).heap[w.heap.size + 1]? = some (.cells #[sv n, .slice ov.1 ov.2.1 ov.2.2] 35 (0, 0)) := setCell_heap (setCell_heap HR.out)
        have q0 : ((wr.setCell ⟨w.heap.size + 1, 0, none⟩ (.string (bs n))).setCell ⟨w.heap.size + 1, 1, none⟩ (.slice ov.1 ov.2.1 ov.2.2)).cell? ⟨w.heap.size + 1, 0, none⟩ = some (sv n) := by rw [Lib.cell_of_heap hR2]; rfl
        have q1 : ((wr.setCell ⟨w.heap.size + 1, 0, none⟩ (.string (bs n))).setCell ⟨w.heap.size + 1, 1, none⟩ (.slice ov.1 ov.2.1 ov.2.2)).cell? ⟨w.heap.size + 1, 1, none⟩ = some (.slice ov.1 ov.2.1 ov.2.2) := by rw [Lib.cell_of_heap hR2]; rfl
        refine bodyPost_ret (v := .agg #[sv n, .slice ov.1 ov.2.1 ov.2.2]) ?_ rfl ?_
        · clear HO HR hT hb hR2 ih
          simp [results, Try.results32, go_sem, q0, q1]
        · obtain rfl : k = m := by omega
          have hx : ks.take k = ks := List.take_of_length_le (by rw [← HM.out]; exact Nat.le_refl _)
          have hd := HO.out
          rw [hx] at hd
          have hD := hd.done hn (by rw [← HM.out]; exact hz)
          have hlt3 := lt_of_heap hd.blk
          refine ⟨_, _, rfl, ?_, (hb.setCell (by simp) _).setCell (by simp) _⟩
          refine (hD.keep (Kept.trans (keptGrown (row := some (w.heap.size + 1)) grownSet fun x hx => ⟨hx.2, ?_⟩) (keptGrown (row := some (w.heap.size + 1)) grownSet fun x hx => ⟨by rw [sizeSet]; exact hx.2, ?_⟩))).more fun x hx => ⟨?_, ?_⟩
          · intro e; injection e; omega
          · intro e; injection e; omega
          · have := hx.1; omega
          · rw [sizeSet, sizeSet]; exact hx.2
end Go.Proofs.Ytiijlecidepneaa
