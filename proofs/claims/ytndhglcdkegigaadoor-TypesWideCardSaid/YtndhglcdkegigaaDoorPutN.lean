/-
  The walk of types.Put: a type in new memory.
  Conditions: the arguments read as a type, names and types.
-/
import Derived.Test.YtndhglcdkegigaaDoorPutP
namespace Go.Proofs.YtndhglcdkegigaaDoor
open Go.RowKit

set_option maxHeartbeats 8000000 in
set_option maxRecDepth 100000 in
theorem putN_any (ns : List (List UInt8)) (ls : List Ty) (hns : ns.length ≤ 4000000) (t : Ty) : ∀ (u v : Value) (NA LA : Option Addr) (NC LC : Nat) (lvs : List (Value × Value)) (w : World), TyIs w (Lt w.heap.size) t u v → Row w (Lt w.heap.size) NA (ns.map sv) → Tys w (Lt w.heap.size) LA ls lvs →
    Calls Tryd.prog 39 #[.agg #[u, v], .slice NA ns.length NC, .slice LA ls.length LC] w (MadeTy (putN ns ls t) w) := by
  obtain ⟨a, ha⟩ : ∃ a, a = ns.length := ⟨_, rfl⟩
  obtain ⟨b, hb⟩ : ∃ b, b = ls.length := ⟨_, rfl⟩
  rw [← ha] at hns
  rw [← ha, ← hb]
  have HA := Lib.hid ha
  have HB := Lib.hid hb
  clear ha hb
  induction t using Ty.ind with | h n ks ih => ?_
  intro u v NA LA NC LC lvs w ht hNA hLA
  obtain ⟨A, c, vs, rfl, rfl, hn, hz, hc1, hc2, hT⟩ := ht.open_
  simp only [Ty.name, Ty.args] at hn hz hc1 hT ⊢
  obtain ⟨m, hm⟩ : ∃ m, m = ks.length := ⟨_, rfl⟩
  rw [← hm]
  rw [← hm] at hz hc1
  obtain ⟨L, hL⟩ : ∃ L, L = ks.map (putN ns ls) := ⟨_, rfl⟩
  have hLL : m = L.length := by rw [hL, List.length_map]; exact hm
  have HM := Lib.hid hm
  have HL := Lib.hid hL
  have HLL := Lib.hid hLL
  have IH := Lib.hid ih
  have HNA := Lib.hid hNA
  have HLA := Lib.hid hLA
  clear hm ht hL hLL ih hNA hLA
  obtain ⟨i0, hi, hz0, hz1, hz2⟩ := info_parts infoT
  obtain ⟨x, bb, hpw⟩ : ∃ x bb, parW n m = (x, bb) := ⟨_, _, rfl⟩
  have HPW := Lib.hid hpw
  clear hpw
  go_enter Tryd.func39, Tryd.ntmps39
  go_wp2_with fail
  refine (parameter_any n A m c _ hz).mono ?_
  rw [HPW.out]
  rintro e w1 ⟨rfl, hb1⟩
  have hb2 : Below w.heap.size w ((w.alloc (.cells #[sv n, .slice A m c] 30)).alloc (.cells #[.string ⟨#[]⟩, .slice none 0 0] 30)) := ((Below.refl _ _).alloc (Nat.le_refl _) _).alloc (by simp) _
  have hb3 : Below w.heap.size w w1 := hb2.trans (hb1.mono (by simp; omega))
  have hq := alloc2 w (.cells #[sv n, .slice A m c] 30) (.cells #[.string ⟨#[]⟩, .slice none 0 0] 30)
  have hq1 := (hb1.block w.heap.size (by simp; omega)).trans hq.1
  have hq2 := (hb1.block (w.heap.size + 1) (by simp)).trans hq.2
  have t0 : w1.cell? ⟨w.heap.size, 0, none⟩ = some (sv n) := by rw [Lib.cell_of_heap hq1]; rfl
  have t1 : w1.cell? ⟨w.heap.size, 1, none⟩ = some (.slice A m c) := by rw [Lib.cell_of_heap hq1]; rfl
  have hsz1 : w.heap.size + 1 < w1.heap.size := lt_of_heap hq2
  have HQ2 := Lib.hid hq2
  clear hq hq1 hq2
  have t1' : (w1.alloc (.cells #[.string (bs n), .slice none 0 0] 30)).cell? ⟨w.heap.size, 1, none⟩ = some (.slice A m c) := (cellAlloc (by omega)).trans t1
  cases bb with
  | false =>
    have hpx : putN ns ls (.mk n ks) = .mk n (ks.map (putN ns ls)) := putN_none (by unfold parIx; rw [← HM.out, HPW.out]; rfl)
    have HPUT := Lib.hid hpx
    clear hpx
    go_wp2_with fail
    go_loopw [41] (fun i wr => ∃ k : Nat, k ≤ m ∧ i = .int .i64 k ∧ OutIs w1.heap.size n (L.take k) wr ∧ Below w1.heap.size w1 wr) (fun i _ => m - (intOf i).toNat)
    case atStart => exact ⟨0, Nat.zero_le _, rfl, OutIs.fresh (alloc1 _ _), (Below.refl _ _).alloc (Nat.le_refl _) _⟩
    case round =>
      obtain ⟨k, hk, rfl, ho, hbr⟩ := hrel
      obtain ⟨ov, vs', ho'⟩ := ho
      have hB := ho'.blk
      obtain ⟨ov, rfl⟩ := ho'.shape
      have hb : Below w.heap.size w wr := hb3.trans (hbr.mono hb3.size)
      have hr : wr.heap[w.heap.size + 1]? = some (.cells #[.string ⟨#[]⟩, .slice none 0 0] 30 (0, 0)) := (hbr.block _ hsz1).trans HQ2.out
      have c0 : wr.cell? ⟨w1.heap.size, 0, none⟩ = some (sv n) := by rw [Lib.cell_of_heap hB]; rfl
      have c1 : wr.cell? ⟨w1.heap.size, 1, none⟩ = some (.slice ov.1 ov.2.1 ov.2.2) := by rw [Lib.cell_of_heap hB]; rfl
      have f1 : wr.frozen? ⟨w1.heap.size, 1, none⟩ = false := Lib.frozen_of_heap hB 1
      have hsr := hbr.size
      have hlt2 := lt_of_heap hB
      have HO := Lib.hid ho'
      have HR := Lib.hid hr
      by_cases hlt : k < m
      · have hki : k < ks.length := by rw [← HM.out]; exact hlt
        obtain ⟨ad, u, v, rfl, hS, e0, e1, hty⟩ := (hT.keep (kept_below hb)).at_ (List.getElem?_eq_getElem hki)
        obtain ⟨u, v, rfl, rfl⟩ := hty.shape
        have hsz := hb.size
        have hbd : Below w.heap.size w (wr.alloc (.cells #[sv u, .slice v.1 v.2.1 v.2.2] 30)).drew := (hb.alloc hsz _).drew
        have HNA2 := Lib.hid ((HNA.out.keep (kept_below hbd)).more fun y hy => (Nat.lt_of_lt_of_le hy hbd.size : Lt _ y))
        have HLA2 := Lib.hid ((HLA.out.keep (kept_below hbd)).more fun y hy => (Nat.lt_of_lt_of_le hy hbd.size : Lt _ y))
        have CALL := Lib.hid (IH.out ks[k] (List.getElem_mem hki) _ _ NA LA NC LC lvs _ (hty.now hsz (((Below.refl wr.heap.size wr).alloc (Nat.le_refl _) (.cells #[sv u, .slice v.1 v.2.1 v.2.2] 30)).drew)) HNA2.out HLA2.out)
        clear hB ho' hr hbd
        go_wp2_with fail
        refine wp_region_held' (fun w' => w'.cell? ⟨w1.heap.size, 1, none⟩ = some (.slice ov.1 ov.2.1 ov.2.2) ∧ w'.cell? ⟨wr.heap.size, 0, none⟩ = some (sv u) ∧ w'.cell? ⟨wr.heap.size, 1, none⟩ = some (.slice v.1 v.2.1 v.2.2)) [] [0, 1, 2, 3, 4] [5, 6] [7, 8, 9] (by kernel_rfl) (by kernel_rfl) ?sf ?hf
        case sf => exact ⟨(cellAlloc hlt2).trans c1, by simp, by simp⟩
        case hf =>
        simp only [opsAt, List.filterMap_cons, List.filterMap_nil, List.getElem?_toArray, List.getElem?_cons_succ, List.getElem?_cons_zero]
        refine wpFloat_nil ?_
        refine wpLoad_step ?vf0 rfl (fun w' hS => ?yf0) ?kf0
        case yf0 =>
          obtain ⟨h1, h2, h3⟩ := hS
          go_simp
          try rfl
        case kf0 =>
        go_simp
        refine wpLoad_step ?vf1 rfl (fun w' hS => ?yf1) ?kf1
        case yf1 =>
          obtain ⟨h1, h2, h3⟩ := hS
          go_simp
          try rfl
        case kf1 =>
        go_simp
        refine wpLoad_step ?vf2 rfl (fun w' hS => ?yf2) ?kf2
        case yf2 =>
          obtain ⟨h1, h2, h3⟩ := hS
          go_simp
          try rfl
        case kf2 =>
        go_simp
        refine wpLoad_step ?vf3 rfl (fun w' hS => ?yf3) ?kf3
        case yf3 =>
          obtain ⟨h1, h2, h3⟩ := hS
          go_simp
          try rfl
        case kf3 =>
        go_simp
        refine wpLoad_step ?vf4 rfl (fun w' hS => ?yf4) ?kf4
        case yf4 =>
          obtain ⟨h1, h2, h3⟩ := hS
          go_simp
          try rfl
        case kf4 =>
        go_simp
        refine wpLoad_nil ?_
        refine wpKeep_step rfl ?_
        go_simp
        refine CALL.out.mono ?_
        rintro e w4 ⟨u1, v1, rfl, hT1, hb4⟩
        obtain ⟨u1, v1, rfl, rfl⟩ := hT1.shape
        obtain ⟨hc, hf⟩ := belowCell hb4
        have hzw : wr.heap.size + 1 ≤ w4.heap.size := by have := hb4.size; simpa using this
        have HT1 := Lib.hid hT1
        clear hT1
        have d1 : w4.cell? ⟨w1.heap.size, 1, none⟩ = some (.slice ov.1 ov.2.1 ov.2.2) := (hc _ _ (by simp; omega)).trans ((cellAlloc hlt2).trans c1)
        have d2 : w4.cell? ⟨wr.heap.size, 0, none⟩ = some (sv u) := by rw [hc _ _ (by simp)]; simp
        have d3 : w4.cell? ⟨wr.heap.size, 1, none⟩ = some (.slice v.1 v.2.1 v.2.2) := by rw [hc _ _ (by simp)]; simp
        refine ⟨⟨d1, d2, d3⟩, ?_⟩
        refine wpKeep_step rfl ?_
        go_simp
        refine ⟨⟨(cellAlloc (by omega)).trans d1, (cellAlloc (by omega)).trans d2, (cellAlloc (by omega)).trans d3⟩, ?_⟩
        refine wpKeep_nil ?_
        have hbW : Below wr.heap.size wr (w4.alloc (.cells #[sv u1, .slice v1.1 v1.2.1 v1.2.2] 30)) := (((((Below.refl _ _).alloc (Nat.le_refl _) _).drew).trans (hb4.mono (by simp)))).alloc (by omega) _
        have hO2 := HO.out.kept (grownOfBelow hbW) (.inl rfl)
        have hlk : (L.take k).length = k := by rw [List.length_take, ← HLL.out]; omega
        have hown2 := hO2.own
        rw [hlk] at hown2
        have HO2 := Lib.hid hO2
        have HLK := Lib.hid hlk
        clear hO2 hlk
        refine wpList_append_lies _ rfl _ _ 28 rfl (w1.heap.size + 1) 30 i0 _ 2 40 Tryd.underlying28 hi hz0 hz1 hz2 rfl (by omega) _ k (flat2 vs') rfl hown2 ⟨w4.heap.size, 0, none⟩ 1 1 [sv u1, .slice v1.1 v1.2.1 v1.2.2] rfl rfl ?c1f ?c2f (by omega) ?c3f ?c4f ?c5f _ rfl ?_
        case c1f => exact World.news_of_block (cs := #[sv u1, .slice v1.1 v1.2.1 v1.2.2]) (alloc1 w4 _)
        case c2f => simp [Value.oneCell']
        case c3f => unfold maxLen; omega
        case c4f => omega
        case c5f => simp; omega
        intro g cap w5 hown3 hgrow hat _
        have hb2 := (hgrow.block w1.heap.size (by simp; omega) (fun e => by have := (hown2.lt _ e.symm).1; omega)).trans HO2.out.blk
        have e1' : w5.cell? ⟨w1.heap.size, 1, none⟩ = some (.slice ov.1 ov.2.1 ov.2.2) := by rw [Lib.cell_of_heap hb2]; rfl
        have f2 : w5.frozen? ⟨w1.heap.size, 1, none⟩ = false := Lib.frozen_of_heap hb2 1
        have HN : Hid (OutIs w1.heap.size n (L.take k ++ [putN ns ls ks[k]]) (w5.setCell ⟨w1.heap.size, 1, none⟩ (.slice (some ⟨g, 0, none⟩) (k + 1) cap))) := by
          have := Lib.hid (HO2.out.push (t := putN ns ls ks[k]) (u := sv u1) (v := .slice v1.1 v1.2.1 v1.2.2) (w' := w5) (g := g) (cap := cap) ?_ (by rw [HLK.out]; exact hown3) hgrow hat)
          · rw [HLK.out] at this
            exact this
          · refine (HT1.out.keep (keptGrown (World.grownBy_alloc w4 _ none) fun x hx => ⟨hx.2, by simp⟩)).more fun x hx => ⟨?_, ?_, ?_⟩
            · have := hx.1; simp at *; omega
            · have := hx.2; simp; omega
            · intro e
              have := (HO.out.own.lt x e.symm).2
              have h5 := hx.1
              simp at *; omega
        have hb5 : Below w1.heap.size w1 w5 := (hbr.trans (hbW.mono hsr)).grown hgrow (by simp; omega) (fun x e => by have := (hown2.lt _ e).1; omega)
        have hk1 : L[k]? = some (putN ns ls ks[k]) := by rw [HL.out, List.getElem?_map, List.getElem?_eq_getElem hki]; rfl
        have HK1 := Lib.hid hk1
        clear hb2 hk1
        go_wp2
        refine NoPanic.normal ?_
        go_wp2
        go_roundw
        case rel =>
          refine ⟨k + 1, by omega, by go_num, ?_, ?_⟩
          · have := HN.out
            rw [List.take_add_one, HK1.out]
            exact this
          · exact hb5.setCell (Nat.le_refl _) _
        case measure => simp [intOf]; omega
      · have r0 : wr.cell? ⟨w.heap.size + 1, 0, none⟩ = some (.string ⟨#[]⟩) := by rw [Lib.cell_of_heap hr]; rfl
        have r1 : wr.cell? ⟨w.heap.size + 1, 1, none⟩ = some (.slice none 0 0) := by rw [Lib.cell_of_heap hr]; rfl
        have g0 : wr.frozen? ⟨w.heap.size + 1, 0, none⟩ = false := Lib.frozen_of_heap hr 0
        have g1 : wr.frozen? ⟨w.heap.size + 1, 1, none⟩ = false := Lib.frozen_of_heap hr 1
        clear hB ho' hr
        go_wp2_with fail
        have hR2 : ((wr.setCell ⟨w.heap.size + 1, 0, none⟩ (.string (bs n))).setCell ⟨w.heap.size + 1, 1, none⟩ (.slice ov.1 ov.2.1 ov.2.2)).heap[w.heap.size + 1]? = some (.cells #[sv n, .slice ov.1 ov.2.1 ov.2.2] 30 (0, 0)) := setCell_heap (setCell_heap HR.out)
        have q0 : ((wr.setCell ⟨w.heap.size + 1, 0, none⟩ (.string (bs n))).setCell ⟨w.heap.size + 1, 1, none⟩ (.slice ov.1 ov.2.1 ov.2.2)).cell? ⟨w.heap.size + 1, 0, none⟩ = some (sv n) := by rw [Lib.cell_of_heap hR2]; rfl
        have q1 : ((wr.setCell ⟨w.heap.size + 1, 0, none⟩ (.string (bs n))).setCell ⟨w.heap.size + 1, 1, none⟩ (.slice ov.1 ov.2.1 ov.2.2)).cell? ⟨w.heap.size + 1, 1, none⟩ = some (.slice ov.1 ov.2.1 ov.2.2) := by rw [Lib.cell_of_heap hR2]; rfl
        refine bodyPost_ret (v := .agg #[sv n, .slice ov.1 ov.2.1 ov.2.2]) ?_ rfl ?_
        · clear HO HR hT hb hR2
          simp [results, Tryd.results39, go_sem, q0, q1]
        · obtain rfl : k = m := by omega
          have hx : L.take k = L := List.take_of_length_le (by rw [← HLL.out]; exact Nat.le_refl _)
          have hd := HO.out
          rw [hx] at hd
          have hD := hd.done hn (by rw [← HLL.out]; exact hz)
          have hlt3 := lt_of_heap hd.blk
          rw [HPUT.out, ← HL.out]
          refine ⟨_, _, rfl, ?_, (hb.setCell (by simp) _).setCell (by simp) _⟩
          refine (hD.keep (Kept.trans (keptGrown (row := some (w.heap.size + 1)) grownSet fun x hx => ⟨hx.2, ?_⟩) (keptGrown (row := some (w.heap.size + 1)) grownSet fun x hx => ⟨by rw [sizeSet]; exact hx.2, ?_⟩))).more fun x hx => ⟨?_, ?_⟩
          · intro e; injection e; omega
          · intro e; injection e; omega
          · have := hx.1; omega
          · rw [sizeSet, sizeSet]; exact hx.2
  | true =>
    have hb1w : Below w.heap.size w w1 := hb3
    have hix := idx_range ns x 0
    go_wp2_with fail
    rw [HA.out]
    refine (index_any NA NC _ ns x _ (HNA.out.keep (kept_below hb3)) (by rw [← HA.out]; exact hns)).mono ?_
    rw [← HA.out]
    rintro e w2 ⟨rfl, rfl⟩
    rcases hix with hix | ⟨j, hj, hix⟩
    · rw [hix]
      have hpx : putN ns ls (.mk n ks) = .mk n (ks.map (putN ns ls)) := putN_none (by unfold parIx; rw [← HM.out, HPW.out]; dsimp only; rw [hix]; rfl)
      have HPUT := Lib.hid hpx
      clear hpx hix
      go_wp2_with fail
      go_loopw [41] (fun i wr => ∃ k : Nat, k ≤ m ∧ i = .int .i64 k ∧ OutIs w1.heap.size n (L.take k) wr ∧ Below w1.heap.size w1 wr) (fun i _ => m - (intOf i).toNat)
      case atStart => exact ⟨0, Nat.zero_le _, rfl, OutIs.fresh (alloc1 _ _), (Below.refl _ _).alloc (Nat.le_refl _) _⟩
      case round =>
        obtain ⟨k, hk, rfl, ho, hbr⟩ := hrel
        obtain ⟨ov, vs', ho'⟩ := ho
        have hB := ho'.blk
        obtain ⟨ov, rfl⟩ := ho'.shape
        have hb : Below w.heap.size w wr := hb3.trans (hbr.mono hb3.size)
        have hr : wr.heap[w.heap.size + 1]? = some (.cells #[.string ⟨#[]⟩, .slice none 0 0] 30 (0, 0)) := (hbr.block _ hsz1).trans HQ2.out
        have c0 : wr.cell? ⟨w1.heap.size, 0, none⟩ = some (sv n) := by rw [Lib.cell_of_heap hB]; rfl
        have c1 : wr.cell? ⟨w1.heap.size, 1, none⟩ = some (.slice ov.1 ov.2.1 ov.2.2) := by rw [Lib.cell_of_heap hB]; rfl
        have f1 : wr.frozen? ⟨w1.heap.size, 1, none⟩ = false := Lib.frozen_of_heap hB 1
        have hsr := hbr.size
        have hlt2 := lt_of_heap hB
        have HO := Lib.hid ho'
        have HR := Lib.hid hr
        by_cases hlt : k < m
        · have hki : k < ks.length := by rw [← HM.out]; exact hlt
          obtain ⟨ad, u, v, rfl, hS, e0, e1, hty⟩ := (hT.keep (kept_below hb)).at_ (List.getElem?_eq_getElem hki)
          obtain ⟨u, v, rfl, rfl⟩ := hty.shape
          have hsz := hb.size
          have hbd : Below w.heap.size w (wr.alloc (.cells #[sv u, .slice v.1 v.2.1 v.2.2] 30)).drew := (hb.alloc hsz _).drew
          have HNA2 := Lib.hid ((HNA.out.keep (kept_below hbd)).more fun y hy => (Nat.lt_of_lt_of_le hy hbd.size : Lt _ y))
          have HLA2 := Lib.hid ((HLA.out.keep (kept_below hbd)).more fun y hy => (Nat.lt_of_lt_of_le hy hbd.size : Lt _ y))
          have CALL := Lib.hid (IH.out ks[k] (List.getElem_mem hki) _ _ NA LA NC LC lvs _ (hty.now hsz (((Below.refl wr.heap.size wr).alloc (Nat.le_refl _) (.cells #[sv u, .slice v.1 v.2.1 v.2.2] 30)).drew)) HNA2.out HLA2.out)
          clear hB ho' hr hbd
          go_wp2_with fail
          refine wp_region_held' (fun w' => w'.cell? ⟨w1.heap.size, 1, none⟩ = some (.slice ov.1 ov.2.1 ov.2.2) ∧ w'.cell? ⟨wr.heap.size, 0, none⟩ = some (sv u) ∧ w'.cell? ⟨wr.heap.size, 1, none⟩ = some (.slice v.1 v.2.1 v.2.2)) [] [0, 1, 2, 3, 4] [5, 6] [7, 8, 9] (by kernel_rfl) (by kernel_rfl) ?sg ?hg
          case sg => exact ⟨(cellAlloc hlt2).trans c1, by simp, by simp⟩
          case hg =>
          simp only [opsAt, List.filterMap_cons, List.filterMap_nil, List.getElem?_toArray, List.getElem?_cons_succ, List.getElem?_cons_zero]
          refine wpFloat_nil ?_
          refine wpLoad_step ?vg0 rfl (fun w' hS => ?yg0) ?kg0
          case yg0 =>
            obtain ⟨h1, h2, h3⟩ := hS
            go_simp
            try rfl
          case kg0 =>
          go_simp
          refine wpLoad_step ?vg1 rfl (fun w' hS => ?yg1) ?kg1
          case yg1 =>
            obtain ⟨h1, h2, h3⟩ := hS
            go_simp
            try rfl
          case kg1 =>
          go_simp
          refine wpLoad_step ?vg2 rfl (fun w' hS => ?yg2) ?kg2
          case yg2 =>
            obtain ⟨h1, h2, h3⟩ := hS
            go_simp
            try rfl
          case kg2 =>
          go_simp
          refine wpLoad_step ?vg3 rfl (fun w' hS => ?yg3) ?kg3
          case yg3 =>
            obtain ⟨h1, h2, h3⟩ := hS
            go_simp
            try rfl
          case kg3 =>
          go_simp
          refine wpLoad_step ?vg4 rfl (fun w' hS => ?yg4) ?kg4
          case yg4 =>
            obtain ⟨h1, h2, h3⟩ := hS
            go_simp
            try rfl
          case kg4 =>
          go_simp
          refine wpLoad_nil ?_
          refine wpKeep_step rfl ?_
          go_simp
          refine CALL.out.mono ?_
          rintro e w4 ⟨u1, v1, rfl, hT1, hb4⟩
          obtain ⟨u1, v1, rfl, rfl⟩ := hT1.shape
          obtain ⟨hc, hf⟩ := belowCell hb4
          have hzw : wr.heap.size + 1 ≤ w4.heap.size := by have := hb4.size; simpa using this
          have HT1 := Lib.hid hT1
          clear hT1
          have d1 : w4.cell? ⟨w1.heap.size, 1, none⟩ = some (.slice ov.1 ov.2.1 ov.2.2) := (hc _ _ (by simp; omega)).trans ((cellAlloc hlt2).trans c1)
          have d2 : w4.cell? ⟨wr.heap.size, 0, none⟩ = some (sv u) := by rw [hc _ _ (by simp)]; simp
          have d3 : w4.cell? ⟨wr.heap.size, 1, none⟩ = some (.slice v.1 v.2.1 v.2.2) := by rw [hc _ _ (by simp)]; simp
          refine ⟨⟨d1, d2, d3⟩, ?_⟩
          refine wpKeep_step rfl ?_
          go_simp
          refine ⟨⟨(cellAlloc (by omega)).trans d1, (cellAlloc (by omega)).trans d2, (cellAlloc (by omega)).trans d3⟩, ?_⟩
          refine wpKeep_nil ?_
          have hbW : Below wr.heap.size wr (w4.alloc (.cells #[sv u1, .slice v1.1 v1.2.1 v1.2.2] 30)) := (((((Below.refl _ _).alloc (Nat.le_refl _) _).drew).trans (hb4.mono (by simp)))).alloc (by omega) _
          have hO2 := HO.out.kept (grownOfBelow hbW) (.inl rfl)
          have hlk : (L.take k).length = k := by rw [List.length_take, ← HLL.out]; omega
          have hown2 := hO2.own
          rw [hlk] at hown2
          have HO2 := Lib.hid hO2
          have HLK := Lib.hid hlk
          clear hO2 hlk
          refine wpList_append_lies _ rfl _ _ 28 rfl (w1.heap.size + 1) 30 i0 _ 2 40 Tryd.underlying28 hi hz0 hz1 hz2 rfl (by omega) _ k (flat2 vs') rfl hown2 ⟨w4.heap.size, 0, none⟩ 1 1 [sv u1, .slice v1.1 v1.2.1 v1.2.2] rfl rfl ?c1g ?c2g (by omega) ?c3g ?c4g ?c5g _ rfl ?_
          case c1g => exact World.news_of_block (cs := #[sv u1, .slice v1.1 v1.2.1 v1.2.2]) (alloc1 w4 _)
          case c2g => simp [Value.oneCell']
          case c3g => unfold maxLen; omega
          case c4g => omega
          case c5g => simp; omega
          intro g cap w5 hown3 hgrow hat _
          have hb2 := (hgrow.block w1.heap.size (by simp; omega) (fun e => by have := (hown2.lt _ e.symm).1; omega)).trans HO2.out.blk
          have e1' : w5.cell? ⟨w1.heap.size, 1, none⟩ = some (.slice ov.1 ov.2.1 ov.2.2) := by rw [Lib.cell_of_heap hb2]; rfl
          have f2 : w5.frozen? ⟨w1.heap.size, 1, none⟩ = false := Lib.frozen_of_heap hb2 1
          have HN : Hid (OutIs w1.heap.size n (L.take k ++ [putN ns ls ks[k]]) (w5.setCell ⟨w1.heap.size, 1, none⟩ (.slice (some ⟨g, 0, none⟩) (k + 1) cap))) := by
            have := Lib.hid (HO2.out.push (t := putN ns ls ks[k]) (u := sv u1) (v := .slice v1.1 v1.2.1 v1.2.2) (w' := w5) (g := g) (cap := cap) ?_ (by rw [HLK.out]; exact hown3) hgrow hat)
            · rw [HLK.out] at this
              exact this
            · refine (HT1.out.keep (keptGrown (World.grownBy_alloc w4 _ none) fun x hx => ⟨hx.2, by simp⟩)).more fun x hx => ⟨?_, ?_, ?_⟩
              · have := hx.1; simp at *; omega
              · have := hx.2; simp; omega
              · intro e
                have := (HO.out.own.lt x e.symm).2
                have h5 := hx.1
                simp at *; omega
          have hb5 : Below w1.heap.size w1 w5 := (hbr.trans (hbW.mono hsr)).grown hgrow (by simp; omega) (fun x e => by have := (hown2.lt _ e).1; omega)
          have hk1 : L[k]? = some (putN ns ls ks[k]) := by rw [HL.out, List.getElem?_map, List.getElem?_eq_getElem hki]; rfl
          have HK1 := Lib.hid hk1
          clear hb2 hk1
          go_wp2
          refine NoPanic.normal ?_
          go_wp2
          go_roundw
          case rel =>
            refine ⟨k + 1, by omega, by go_num, ?_, ?_⟩
            · have := HN.out
              rw [List.take_add_one, HK1.out]
              exact this
            · exact hb5.setCell (Nat.le_refl _) _
          case measure => simp [intOf]; omega
        · have r0 : wr.cell? ⟨w.heap.size + 1, 0, none⟩ = some (.string ⟨#[]⟩) := by rw [Lib.cell_of_heap hr]; rfl
          have r1 : wr.cell? ⟨w.heap.size + 1, 1, none⟩ = some (.slice none 0 0) := by rw [Lib.cell_of_heap hr]; rfl
          have g0 : wr.frozen? ⟨w.heap.size + 1, 0, none⟩ = false := Lib.frozen_of_heap hr 0
          have g1 : wr.frozen? ⟨w.heap.size + 1, 1, none⟩ = false := Lib.frozen_of_heap hr 1
          clear hB ho' hr
          go_wp2_with fail
          have hR2 : ((wr.setCell ⟨w.heap.size + 1, 0, none⟩ (.string (bs n))).setCell ⟨w.heap.size + 1, 1, none⟩ (.slice ov.1 ov.2.1 ov.2.2)).heap[w.heap.size + 1]? = some (.cells #[sv n, .slice ov.1 ov.2.1 ov.2.2] 30 (0, 0)) := setCell_heap (setCell_heap HR.out)
          have q0 : ((wr.setCell ⟨w.heap.size + 1, 0, none⟩ (.string (bs n))).setCell ⟨w.heap.size + 1, 1, none⟩ (.slice ov.1 ov.2.1 ov.2.2)).cell? ⟨w.heap.size + 1, 0, none⟩ = some (sv n) := by rw [Lib.cell_of_heap hR2]; rfl
          have q1 : ((wr.setCell ⟨w.heap.size + 1, 0, none⟩ (.string (bs n))).setCell ⟨w.heap.size + 1, 1, none⟩ (.slice ov.1 ov.2.1 ov.2.2)).cell? ⟨w.heap.size + 1, 1, none⟩ = some (.slice ov.1 ov.2.1 ov.2.2) := by rw [Lib.cell_of_heap hR2]; rfl
          refine bodyPost_ret (v := .agg #[sv n, .slice ov.1 ov.2.1 ov.2.2]) ?_ rfl ?_
          · clear HO HR hT hb hR2
            simp [results, Tryd.results39, go_sem, q0, q1]
          · obtain rfl : k = m := by omega
            have hx : L.take k = L := List.take_of_length_le (by rw [← HLL.out]; exact Nat.le_refl _)
            have hd := HO.out
            rw [hx] at hd
            have hD := hd.done hn (by rw [← HLL.out]; exact hz)
            have hlt3 := lt_of_heap hd.blk
            rw [HPUT.out, ← HL.out]
            refine ⟨_, _, rfl, ?_, (hb.setCell (by simp) _).setCell (by simp) _⟩
            refine (hD.keep (Kept.trans (keptGrown (row := some (w.heap.size + 1)) grownSet fun x hx => ⟨hx.2, ?_⟩) (keptGrown (row := some (w.heap.size + 1)) grownSet fun x hx => ⟨by rw [sizeSet]; exact hx.2, ?_⟩))).more fun x hx => ⟨?_, ?_⟩
            · intro e; injection e; omega
            · intro e; injection e; omega
            · have := hx.1; omega
            · rw [sizeSet, sizeSet]; exact hx.2
    · rw [Nat.zero_add] at hix
      rw [hix]
      by_cases hjl : j < b
      · have hjl2 : j < ls.length := by rw [← HB.out]; exact hjl
        have hpx : putN ns ls (.mk n ks) = ls[j] := putN_some (by unfold parIx; rw [← HM.out, HPW.out]; dsimp only; rw [if_pos rfl, hix, if_pos (by omega), Int.toNat_natCast]; exact List.getElem?_eq_getElem hjl2)
        have HPUT := Lib.hid hpx
        clear hpx hix
        obtain ⟨ad, u, v, rfl, hS, e0, e1, hty⟩ := (HLA.out.keep (kept_below hb3)).at_ (List.getElem?_eq_getElem hjl2)
        obtain ⟨u, v, rfl, rfl⟩ := hty.shape
        have CP := Lib.hid (copied_any ls[j] _ _ w1 (hty.more fun y hy => (Nat.lt_of_lt_of_le hy hb3.size : Lt _ y)))
        have hik : (0 : Int) ≤ (j : Int) ∧ (j : Int) < (b : Int) := ⟨by omega, by omega⟩
        clear hty
        go_wp2_with fail
        refine CP.out.mono ?_
        rintro e w4 ⟨u1, v1, rfl, hT1, hb4⟩
        obtain ⟨u1, v1, rfl, rfl⟩ := hT1.shape
        have hr := (hb4.block _ hsz1).trans HQ2.out
        have r0 : w4.cell? ⟨w.heap.size + 1, 0, none⟩ = some (.string ⟨#[]⟩) := by rw [Lib.cell_of_heap hr]; rfl
        have r1 : w4.cell? ⟨w.heap.size + 1, 1, none⟩ = some (.slice none 0 0) := by rw [Lib.cell_of_heap hr]; rfl
        have g0 : w4.frozen? ⟨w.heap.size + 1, 0, none⟩ = false := Lib.frozen_of_heap hr 0
        have g1 : w4.frozen? ⟨w.heap.size + 1, 1, none⟩ = false := Lib.frozen_of_heap hr 1
        have hR2 : ((w4.setCell ⟨w.heap.size + 1, 0, none⟩ (sv u1)).setCell ⟨w.heap.size + 1, 1, none⟩ (.slice v1.1 v1.2.1 v1.2.2)).heap[w.heap.size + 1]? = some (.cells #[sv u1, .slice v1.1 v1.2.1 v1.2.2] 30 (0, 0)) := setCell_heap (setCell_heap hr)
        have HR2 := Lib.hid hR2
        have HT1 := Lib.hid hT1
        have HB4 := Lib.hid (hb3.trans (hb4.mono hb3.size))
        clear hr hR2 hT1 hb4
        go_wp2_with fail
        have q0 := (Lib.cell_of_heap HR2.out 0).trans rfl
        have q1 := (Lib.cell_of_heap HR2.out 1).trans rfl
        refine bodyPost_ret (v := .agg #[sv u1, .slice v1.1 v1.2.1 v1.2.2]) ?_ rfl ?_
        · simp [results, Tryd.results39, go_sem, q0, q1]
        · rw [HPUT.out]
          refine ⟨_, _, rfl, ?_, (HB4.out.setCell (by simp) _).setCell (by simp) _⟩
          refine (HT1.out.keep (Kept.trans (keptGrown (row := some (w.heap.size + 1)) grownSet fun x hx => ⟨hx.2, ?_⟩) (keptGrown (row := some (w.heap.size + 1)) grownSet fun x hx => ⟨by rw [sizeSet]; exact hx.2, ?_⟩))).more fun x hx => ⟨?_, ?_⟩
          · intro e; injection e with e; have := hx.1; omega
          · intro e; injection e with e; have := hx.1; omega
          · have := hx.1; omega
          · rw [sizeSet, sizeSet]; exact hx.2
      · have hpx : putN ns ls (.mk n ks) = .mk n (ks.map (putN ns ls)) := putN_none (by unfold parIx; rw [← HM.out, HPW.out]; dsimp only; rw [if_pos rfl, hix, if_pos (by omega), Int.toNat_natCast]; exact List.getElem?_eq_none (by rw [← HB.out]; omega))
        have HPUT := Lib.hid hpx
        have hjn : ¬ (j : Int) < (b : Int) := by omega
        clear hpx hix
        go_wp2_with fail
        go_loopw [41] (fun i wr => ∃ k : Nat, k ≤ m ∧ i = .int .i64 k ∧ OutIs w1.heap.size n (L.take k) wr ∧ Below w1.heap.size w1 wr) (fun i _ => m - (intOf i).toNat)
        case atStart => exact ⟨0, Nat.zero_le _, rfl, OutIs.fresh (alloc1 _ _), (Below.refl _ _).alloc (Nat.le_refl _) _⟩
        case round =>
          obtain ⟨k, hk, rfl, ho, hbr⟩ := hrel
          obtain ⟨ov, vs', ho'⟩ := ho
          have hB := ho'.blk
          obtain ⟨ov, rfl⟩ := ho'.shape
          have hb : Below w.heap.size w wr := hb3.trans (hbr.mono hb3.size)
          have hr : wr.heap[w.heap.size + 1]? = some (.cells #[.string ⟨#[]⟩, .slice none 0 0] 30 (0, 0)) := (hbr.block _ hsz1).trans HQ2.out
          have c0 : wr.cell? ⟨w1.heap.size, 0, none⟩ = some (sv n) := by rw [Lib.cell_of_heap hB]; rfl
          have c1 : wr.cell? ⟨w1.heap.size, 1, none⟩ = some (.slice ov.1 ov.2.1 ov.2.2) := by rw [Lib.cell_of_heap hB]; rfl
          have f1 : wr.frozen? ⟨w1.heap.size, 1, none⟩ = false := Lib.frozen_of_heap hB 1
          have hsr := hbr.size
          have hlt2 := lt_of_heap hB
          have HO := Lib.hid ho'
          have HR := Lib.hid hr
          by_cases hlt : k < m
          · have hki : k < ks.length := by rw [← HM.out]; exact hlt
            obtain ⟨ad, u, v, rfl, hS, e0, e1, hty⟩ := (hT.keep (kept_below hb)).at_ (List.getElem?_eq_getElem hki)
            obtain ⟨u, v, rfl, rfl⟩ := hty.shape
            have hsz := hb.size
            have hbd : Below w.heap.size w (wr.alloc (.cells #[sv u, .slice v.1 v.2.1 v.2.2] 30)).drew := (hb.alloc hsz _).drew
            have HNA2 := Lib.hid ((HNA.out.keep (kept_below hbd)).more fun y hy => (Nat.lt_of_lt_of_le hy hbd.size : Lt _ y))
            have HLA2 := Lib.hid ((HLA.out.keep (kept_below hbd)).more fun y hy => (Nat.lt_of_lt_of_le hy hbd.size : Lt _ y))
            have CALL := Lib.hid (IH.out ks[k] (List.getElem_mem hki) _ _ NA LA NC LC lvs _ (hty.now hsz (((Below.refl wr.heap.size wr).alloc (Nat.le_refl _) (.cells #[sv u, .slice v.1 v.2.1 v.2.2] 30)).drew)) HNA2.out HLA2.out)
            clear hB ho' hr hbd
            go_wp2_with fail
            refine wp_region_held' (fun w' => w'.cell? ⟨w1.heap.size, 1, none⟩ = some (.slice ov.1 ov.2.1 ov.2.2) ∧ w'.cell? ⟨wr.heap.size, 0, none⟩ = some (sv u) ∧ w'.cell? ⟨wr.heap.size, 1, none⟩ = some (.slice v.1 v.2.1 v.2.2)) [] [0, 1, 2, 3, 4] [5, 6] [7, 8, 9] (by kernel_rfl) (by kernel_rfl) ?sh ?hh
            case sh => exact ⟨(cellAlloc hlt2).trans c1, by simp, by simp⟩
            case hh =>
            simp only [opsAt, List.filterMap_cons, List.filterMap_nil, List.getElem?_toArray, List.getElem?_cons_succ, List.getElem?_cons_zero]
            refine wpFloat_nil ?_
            refine wpLoad_step ?vh0 rfl (fun w' hS => ?yh0) ?kh0
            case yh0 =>
              obtain ⟨h1, h2, h3⟩ := hS
              go_simp
              try rfl
            case kh0 =>
            go_simp
            refine wpLoad_step ?vh1 rfl (fun w' hS => ?yh1) ?kh1
            case yh1 =>
              obtain ⟨h1, h2, h3⟩ := hS
              go_simp
              try rfl
            case kh1 =>
            go_simp
            refine wpLoad_step ?vh2 rfl (fun w' hS => ?yh2) ?kh2
            case yh2 =>
              obtain ⟨h1, h2, h3⟩ := hS
              go_simp
              try rfl
            case kh2 =>
            go_simp
            refine wpLoad_step ?vh3 rfl (fun w' hS => ?yh3) ?kh3
            case yh3 =>
              obtain ⟨h1, h2, h3⟩ := hS
              go_simp
              try rfl
            case kh3 =>
            go_simp
            refine wpLoad_step ?vh4 rfl (fun w' hS => ?yh4) ?kh4
            case yh4 =>
              obtain ⟨h1, h2, h3⟩ := hS
              go_simp
              try rfl
            case kh4 =>
            go_simp
            refine wpLoad_nil ?_
            refine wpKeep_step rfl ?_
            go_simp
            refine CALL.out.mono ?_
            rintro e w4 ⟨u1, v1, rfl, hT1, hb4⟩
            obtain ⟨u1, v1, rfl, rfl⟩ := hT1.shape
            obtain ⟨hc, hf⟩ := belowCell hb4
            have hzw : wr.heap.size + 1 ≤ w4.heap.size := by have := hb4.size; simpa using this
            have HT1 := Lib.hid hT1
            clear hT1
            have d1 : w4.cell? ⟨w1.heap.size, 1, none⟩ = some (.slice ov.1 ov.2.1 ov.2.2) := (hc _ _ (by simp; omega)).trans ((cellAlloc hlt2).trans c1)
            have d2 : w4.cell? ⟨wr.heap.size, 0, none⟩ = some (sv u) := by rw [hc _ _ (by simp)]; simp
            have d3 : w4.cell? ⟨wr.heap.size, 1, none⟩ = some (.slice v.1 v.2.1 v.2.2) := by rw [hc _ _ (by simp)]; simp
            refine ⟨⟨d1, d2, d3⟩, ?_⟩
            refine wpKeep_step rfl ?_
            go_simp
            refine ⟨⟨(cellAlloc (by omega)).trans d1, (cellAlloc (by omega)).trans d2, (cellAlloc (by omega)).trans d3⟩, ?_⟩
            refine wpKeep_nil ?_
            have hbW : Below wr.heap.size wr (w4.alloc (.cells #[sv u1, .slice v1.1 v1.2.1 v1.2.2] 30)) := (((((Below.refl _ _).alloc (Nat.le_refl _) _).drew).trans (hb4.mono (by simp)))).alloc (by omega) _
            have hO2 := HO.out.kept (grownOfBelow hbW) (.inl rfl)
            have hlk : (L.take k).length = k := by rw [List.length_take, ← HLL.out]; omega
            have hown2 := hO2.own
            rw [hlk] at hown2
            have HO2 := Lib.hid hO2
            have HLK := Lib.hid hlk
            clear hO2 hlk
            refine wpList_append_lies _ rfl _ _ 28 rfl (w1.heap.size + 1) 30 i0 _ 2 40 Tryd.underlying28 hi hz0 hz1 hz2 rfl (by omega) _ k (flat2 vs') rfl hown2 ⟨w4.heap.size, 0, none⟩ 1 1 [sv u1, .slice v1.1 v1.2.1 v1.2.2] rfl rfl ?c1h ?c2h (by omega) ?c3h ?c4h ?c5h _ rfl ?_
            case c1h => exact World.news_of_block (cs := #[sv u1, .slice v1.1 v1.2.1 v1.2.2]) (alloc1 w4 _)
            case c2h => simp [Value.oneCell']
            case c3h => unfold maxLen; omega
            case c4h => omega
            case c5h => simp; omega
            intro g cap w5 hown3 hgrow hat _
            have hb2 := (hgrow.block w1.heap.size (by simp; omega) (fun e => by have := (hown2.lt _ e.symm).1; omega)).trans HO2.out.blk
            have e1' : w5.cell? ⟨w1.heap.size, 1, none⟩ = some (.slice ov.1 ov.2.1 ov.2.2) := by rw [Lib.cell_of_heap hb2]; rfl
            have f2 : w5.frozen? ⟨w1.heap.size, 1, none⟩ = false := Lib.frozen_of_heap hb2 1
            have HN : Hid (OutIs w1.heap.size n (L.take k ++ [putN ns ls ks[k]]) (w5.setCell ⟨w1.heap.size, 1, none⟩ (.slice (some ⟨g, 0, none⟩) (k + 1) cap))) := by
              have := Lib.hid (HO2.out.push (t := putN ns ls ks[k]) (u := sv u1) (v := .slice v1.1 v1.2.1 v1.2.2) (w' := w5) (g := g) (cap := cap) ?_ (by rw [HLK.out]; exact hown3) hgrow hat)
              · rw [HLK.out] at this
                exact this
              · refine (HT1.out.keep (keptGrown (World.grownBy_alloc w4 _ none) fun x hx => ⟨hx.2, by simp⟩)).more fun x hx => ⟨?_, ?_, ?_⟩
                · have := hx.1; simp at *; omega
                · have := hx.2; simp; omega
                · intro e
                  have := (HO.out.own.lt x e.symm).2
                  have h5 := hx.1
                  simp at *; omega
            have hb5 : Below w1.heap.size w1 w5 := (hbr.trans (hbW.mono hsr)).grown hgrow (by simp; omega) (fun x e => by have := (hown2.lt _ e).1; omega)
            have hk1 : L[k]? = some (putN ns ls ks[k]) := by rw [HL.out, List.getElem?_map, List.getElem?_eq_getElem hki]; rfl
            have HK1 := Lib.hid hk1
            clear hb2 hk1
            go_wp2
            refine NoPanic.normal ?_
            go_wp2
            go_roundw
            case rel =>
              refine ⟨k + 1, by omega, by go_num, ?_, ?_⟩
              · have := HN.out
                rw [List.take_add_one, HK1.out]
                exact this
              · exact hb5.setCell (Nat.le_refl _) _
            case measure => simp [intOf]; omega
          · have r0 : wr.cell? ⟨w.heap.size + 1, 0, none⟩ = some (.string ⟨#[]⟩) := by rw [Lib.cell_of_heap hr]; rfl
            have r1 : wr.cell? ⟨w.heap.size + 1, 1, none⟩ = some (.slice none 0 0) := by rw [Lib.cell_of_heap hr]; rfl
            have g0 : wr.frozen? ⟨w.heap.size + 1, 0, none⟩ = false := Lib.frozen_of_heap hr 0
            have g1 : wr.frozen? ⟨w.heap.size + 1, 1, none⟩ = false := Lib.frozen_of_heap hr 1
            clear hB ho' hr
            go_wp2_with fail
            have hR2 : ((wr.setCell ⟨w.heap.size + 1, 0, none⟩ (.string (bs n))).setCell ⟨w.heap.size + 1, 1, none⟩ (.slice ov.1 ov.2.1 ov.2.2)).heap[w.heap.size + 1]? = some (.cells #[sv n, .slice ov.1 ov.2.1 ov.2.2] 30 (0, 0)) := setCell_heap (setCell_heap HR.out)
            have q0 : ((wr.setCell ⟨w.heap.size + 1, 0, none⟩ (.string (bs n))).setCell ⟨w.heap.size + 1, 1, none⟩ (.slice ov.1 ov.2.1 ov.2.2)).cell? ⟨w.heap.size + 1, 0, none⟩ = some (sv n) := by rw [Lib.cell_of_heap hR2]; rfl
            have q1 : ((wr.setCell ⟨w.heap.size + 1, 0, none⟩ (.string (bs n))).setCell ⟨w.heap.size + 1, 1, none⟩ (.slice ov.1 ov.2.1 ov.2.2)).cell? ⟨w.heap.size + 1, 1, none⟩ = some (.slice ov.1 ov.2.1 ov.2.2) := by rw [Lib.cell_of_heap hR2]; rfl
            refine bodyPost_ret (v := .agg #[sv n, .slice ov.1 ov.2.1 ov.2.2]) ?_ rfl ?_
            · clear HO HR hT hb hR2
              simp [results, Tryd.results39, go_sem, q0, q1]
            · obtain rfl : k = m := by omega
              have hx : L.take k = L := List.take_of_length_le (by rw [← HLL.out]; exact Nat.le_refl _)
              have hd := HO.out
              rw [hx] at hd
              have hD := hd.done hn (by rw [← HLL.out]; exact hz)
              have hlt3 := lt_of_heap hd.blk
              rw [HPUT.out, ← HL.out]
              refine ⟨_, _, rfl, ?_, (hb.setCell (by simp) _).setCell (by simp) _⟩
              refine (hD.keep (Kept.trans (keptGrown (row := some (w.heap.size + 1)) grownSet fun x hx => ⟨hx.2, ?_⟩) (keptGrown (row := some (w.heap.size + 1)) grownSet fun x hx => ⟨by rw [sizeSet]; exact hx.2, ?_⟩))).more fun x hx => ⟨?_, ?_⟩
              · intro e; injection e; omega
              · intro e; injection e; omega
              · have := hx.1; omega
              · rw [sizeSet, sizeSet]; exact hx.2
end Go.Proofs.YtndhglcdkegigaaDoor
