/-
  The walk of recompilelaw09.clean (printed by genClean.py).
  Conditions: the argument reads as a type.
-/
import Derived.Test.YtndhglcdkegigaaDoorOutP
import Derived.Test.YtndhglcdkegigaaDoorAgr
namespace Go.Proofs.YtndhglcdkegigaaDoor
open Go.RowKit

def clnE : List UInt8 := [97, 58, 58, 69]
def clnN (n : List UInt8) : List UInt8 := if n = [101, 114, 114, 111, 114] then clnE else n
mutual
def cleanT : Ty → Ty
  | .mk n ks => .mk (clnN n) (cleanL ks)
def cleanL : List Ty → List Ty
  | [] => []
  | a :: r => cleanT a :: cleanL r
end
theorem cleanL_map : ∀ l, cleanL l = l.map cleanT
  | [] => by simp [cleanL]
  | a :: r => by simp [cleanL, cleanL_map r]

set_option maxHeartbeats 8000000 in
set_option maxRecDepth 100000 in
theorem clean_any (t : Ty) : ∀ (u v : Value) (w : World), TyIs w (Lt w.heap.size) t u v → Calls Tryd.prog 21 #[.agg #[u, v]] w (MadeP (cleanT t) w) := by
  induction t using Ty.ind with | h n al ih => ?_
  intro u v w ht
  obtain ⟨A, c, vs, rfl, rfl, hn, hz, hc1, hc2, hT⟩ := ht.open_
  simp only [Ty.name, Ty.args] at hn hz hc1 hT ⊢
  obtain ⟨m, hm⟩ : ∃ m, m = al.length := ⟨_, rfl⟩
  rw [← hm]
  rw [← hm] at hz hc1
  obtain ⟨ks, hks⟩ : ∃ ks, ks = al.map cleanT := ⟨_, rfl⟩
  have hnd : cleanT (.mk n al) = .mk (clnN n) ks := by rw [cleanT, cleanL_map, hks]
  have HKL : Hid (ks.length = m) := Lib.hid (by rw [hks, hm]; simp)
  have HKA : Hid (∀ k a, al[k]? = some a → ks[k]? = some (cleanT a)) := Lib.hid fun k a h => by rw [hks, List.getElem?_map, h]; rfl
  have HM := Lib.hid hm
  have HT := Lib.hid hT
  have HNL := Lib.hid hn
  clear hm ht hks hT hn
  obtain ⟨i0, hi, hz0, hz1, hz2⟩ := info_parts infoT
  by_cases hbr : n = [101, 114, 114, 111, 114]
  · have hnn : clnN n = clnE := by unfold clnN; rw [if_pos hbr]
    rw [hnn] at hnd
    have heq : ((bs n).toList == [101, 114, 114, 111, 114]) = true := by rw [Lib.toList_data, bs_data]; simp [hbr]
    have h3 := alloc3 w (.cells #[sv n, .slice A m c] 30) (.cells #[.string ⟨#[]⟩, .slice none 0 0] 30) (.cells #[.string ⟨#[97, 58, 58, 69]⟩, .slice none 0 0] 30)
    have hb3 : Below w.heap.size w (((w.alloc (.cells #[sv n, .slice A m c] 30)).alloc (.cells #[.string ⟨#[]⟩, .slice none 0 0] 30)).alloc (.cells #[.string ⟨#[97, 58, 58, 69]⟩, .slice none 0 0] 30)) := (((Below.refl _ _).alloc (Nat.le_refl _) _).alloc (by simp) _).alloc (by simp; omega) _
    rw [show w.heap.size + 2 = w.heap.size + 1 + 1 from rfl] at h3
    have HND := Lib.hid hnd
    have H3' := Lib.hid h3
    have HB3' := Lib.hid hb3
    clear hbr hnn hnd h3 hb3
    go_enter Tryd.func21, Tryd.ntmps21
    go_wp2_with fail
    obtain ⟨w3, hw3⟩ : ∃ w3, w3 = ((w.alloc (.cells #[sv n, .slice A m c] 30)).alloc (.cells #[.string ⟨#[]⟩, .slice none 0 0] 30)).alloc (.cells #[.string ⟨#[97, 58, 58, 69]⟩, .slice none 0 0] 30) := ⟨_, rfl⟩
    have H3 : Hid (w3.heap[w.heap.size + 1 + 1]? = some (.cells #[sv clnE, .slice none 0 0] 30 (0, 0))) := Lib.hid (by rw [hw3]; exact H3'.out.2.2)
    have B3 : Hid (w3.heap[w.heap.size]? = some (.cells #[sv n, .slice A m c] 30 (0, 0))) := Lib.hid (by rw [hw3]; exact H3'.out.1)
    have R3 : Hid (w3.heap[w.heap.size + 1]? = some (.cells #[.string ⟨#[]⟩, .slice none 0 0] 30 (0, 0))) := Lib.hid (by rw [hw3]; exact H3'.out.2.1)
    have W3 : Hid (Below w.heap.size w w3) := Lib.hid (by rw [hw3]; exact HB3'.out)
    rw [← hw3]
    clear hw3
    have HO0 : Hid (OutPs (w.heap.size + 1 + 1) clnE (ks.take 0) w3) := Lib.hid (OutPs.fresh H3.out)
    have HB0 : Hid (w3.heap[w.heap.size]? = some (.cells #[sv n, .slice A m c] 30 (0, 0))) := Lib.hid B3.out
    have HR0 : Hid (w3.heap[w.heap.size + 1]? = some (.cells #[.string ⟨#[]⟩, .slice none 0 0] 30 (0, 0))) := Lib.hid R3.out
    go_loopw [4] (fun i wr => ∃ k : Nat, k ≤ m ∧ i = .int .i64 k ∧ OutPs (w.heap.size + 1 + 1) clnE (ks.take k) wr ∧ wr.heap[w.heap.size]? = some (.cells #[sv n, .slice A m c] 30 (0, 0)) ∧ wr.heap[w.heap.size + 1]? = some (.cells #[.string ⟨#[]⟩, .slice none 0 0] 30 (0, 0)) ∧ Below w.heap.size w wr) (fun i _ => m - (intOf i).toNat)
    case atStart => exact ⟨0, Nat.zero_le _, rfl, HO0.out, HB0.out, HR0.out, W3.out⟩
    case round =>
      obtain ⟨k, hk, rfl, ho, hbx, hr, hb⟩ := hrel
      obtain ⟨ov, vs', ho'⟩ := ho
      have hl := ho'.len
      have hB := ho'.blk
      have c0 : wr.cell? ⟨w.heap.size + 1 + 1, 0, none⟩ = some (sv clnE) := by rw [Lib.cell_of_heap hB]; rfl
      have c1 : wr.cell? ⟨w.heap.size + 1 + 1, 1, none⟩ = some ov := by rw [Lib.cell_of_heap hB]; rfl
      have f1 : wr.frozen? ⟨w.heap.size + 1 + 1, 1, none⟩ = false := Lib.frozen_of_heap hB 1
      have x1 : wr.cell? ⟨w.heap.size, 1, none⟩ = some (.slice A m c) := (Lib.cell_of_heap hbx _).trans rfl
      by_cases hlt : k < m
      · have hki : k < al.length := by rw [← HM.out]; exact hlt
        obtain ⟨ad, u, v, rfl, hS, e0, e1, hty⟩ := (HT.out.keep (kept_below hb)).at_ (List.getElem?_eq_getElem hki)
        obtain ⟨u, v, rfl, rfl⟩ := hty.shape
        have hk1 := HKA.out k _ (List.getElem?_eq_getElem hki)
        have HK1 := Lib.hid hk1
        have HO := Lib.hid ho'
        have HR := Lib.hid hr
        have HX := Lib.hid hbx
        have hsz := hb.size
        have hlt2 := lt_of_heap hB
        have hlx := lt_of_heap hbx
        have HBB := Lib.hid hB
        have hTw : TyIs wr.drew (Lt wr.drew.heap.size) al[k] (sv u) (.slice v.1 v.2.1 v.2.2) := TyIs.more (S := Lt w.heap.size) (TyIs.keep (w' := wr.drew) hty fun _ _ => rfl) fun _ h => Nat.lt_of_lt_of_le h hsz
        have CALL := Lib.hid (ih al[k] (List.getElem_mem hki) _ _ _ hTw)
        have hik : (0 : Int) ≤ (k : Int) ∧ (k : Int) < (m : Int) := ⟨by omega, by omega⟩
        have hSl : ad.block < wr.heap.size := Nat.lt_of_lt_of_le hS hsz
        clear hB ho' hr hbx hl hk1 hTw hty
        go_wp2_with fail
        refine wp_region_held' (fun w' => w'.cell? ⟨w.heap.size + 1 + 1, 1, none⟩ = some ov ∧ w'.cell? ⟨w.heap.size, 1, none⟩ = some (.slice (some ad) m c) ∧ w'.cell? (ad.add (k * 2)) = some (sv u) ∧ w'.cell? ⟨(ad.add (k * 2)).block, (ad.add (k * 2)).off + 1, none⟩ = some (.slice v.1 v.2.1 v.2.2)) [] [0, 1, 2, 3, 4, 5, 6] [7, 8] [9, 10, 11] (by kernel_rfl) (by kernel_rfl) ?s1 ?h1
        case s1 => exact ⟨c1, x1, e0, e1⟩
        case h1 =>
          simp only [opsAt, List.filterMap_cons, List.filterMap_nil, List.getElem?_toArray, List.getElem?_cons_succ, List.getElem?_cons_zero]
          refine wpFloat_nil ?_
          refine wpLoad_step ?vb10 rfl (fun w' hS => ?yb10) ?kb10
          case yb10 =>
            obtain ⟨h1, h2, h3, h4⟩ := hS
            go_simp
            try rfl
          case kb10 =>
          go_simp
          refine wpLoad_step ?vb11 rfl (fun w' hS => ?yb11) ?kb11
          case yb11 =>
            obtain ⟨h1, h2, h3, h4⟩ := hS
            go_simp
            try rfl
          case kb11 =>
          go_simp
          refine wpLoad_step ?vb12 rfl (fun w' hS => ?yb12) ?kb12
          case yb12 =>
            obtain ⟨h1, h2, h3, h4⟩ := hS
            go_simp
            try rfl
          case kb12 =>
          go_simp
          refine wpLoad_step ?vb13 rfl (fun w' hS => ?yb13) ?kb13
          case yb13 =>
            obtain ⟨h1, h2, h3, h4⟩ := hS
            go_simp
            try rfl
          case kb13 =>
          go_simp
          refine wpLoad_step ?vb14 rfl (fun w' hS => ?yb14) ?kb14
          case yb14 =>
            obtain ⟨h1, h2, h3, h4⟩ := hS
            go_simp
            try rfl
          case kb14 =>
          go_simp
          refine wpLoad_step ?vb15 rfl (fun w' hS => ?yb15) ?kb15
          case yb15 =>
            obtain ⟨h1, h2, h3, h4⟩ := hS
            go_simp
            try rfl
          case kb15 =>
          go_simp
          refine wpLoad_step ?vb16 rfl (fun w' hS => ?yb16) ?kb16
          case yb16 =>
            obtain ⟨h1, h2, h3, h4⟩ := hS
            go_simp
            try rfl
          case kb16 =>
          go_simp
          refine wpLoad_nil ?_
          refine wpKeep_step rfl ?_
          go_simp
          refine CALL.out.mono ?_
          rintro e w2 ⟨u1, v1, rfl, hT1, hb2⟩
          obtain ⟨u1, v1, rfl, rfl⟩ := hT1.shape
          have hb2 : Below wr.heap.size wr w2 := ((Below.refl _ _).drew).trans hb2
          have hzw : wr.heap.size ≤ w2.heap.size := hb2.size
          have HT1 : Hid (TyIs w2 (FrP w2 wr.heap.size) (cleanT al[k]) (sv u1) (.slice v1.1 v1.2.1 v1.2.2)) := Lib.hid hT1
          clear hT1
          have d1 : w2.cell? ⟨w.heap.size + 1 + 1, 1, none⟩ = some ov := (hb2.cell (p := ⟨w.heap.size + 1 + 1, 1, none⟩) hlt2).trans c1
          have d2 : w2.cell? ⟨w.heap.size, 1, none⟩ = some (.slice (some ad) m c) := (hb2.cell (p := ⟨w.heap.size, 1, none⟩) hlx).trans x1
          have d3 : w2.cell? (ad.add (k * 2)) = some (sv u) := (hb2.cell (p := ad.add (k * 2)) (by rw [blkAdd]; exact hSl)).trans e0
          have d4 : w2.cell? ⟨(ad.add (k * 2)).block, (ad.add (k * 2)).off + 1, none⟩ = some (.slice v.1 v.2.1 v.2.2) := (hb2.cell (p := ⟨(ad.add (k * 2)).block, (ad.add (k * 2)).off + 1, none⟩) (by rw [blkAdd]; exact hSl)).trans e1
          refine ⟨⟨d1, d2, d3, d4⟩, ?_⟩
          refine wpKeep_step rfl ?_
          go_simp
          refine ⟨⟨(cellAlloc (by omega)).trans d1, (cellAlloc (by omega)).trans d2, (World.cell?_of_block (heap_alloc_old w2 _ (by rw [blkAdd]; omega))).trans d3, (cellAlloc (by rw [blkAdd]; omega)).trans d4⟩, ?_⟩
          refine wpKeep_nil ?_
          have hbW : Below wr.heap.size wr (w2.alloc (.cells #[sv u1, .slice v1.1 v1.2.1 v1.2.2] 30)) := hb2.alloc (by omega) _
          have hO2 := HO.out.kept (grownOfBelow hbW) (.inl rfl)
          have hlk : (ks.take k).length = k := by rw [List.length_take, HKL.out]; omega
          have hown2 := hO2.own
          rw [hlk] at hown2
          have HO2 := Lib.hid hO2
          have HLK := Lib.hid hlk
          clear hO2 hlk
          refine (wpList_append_lies _ rfl _ _ 28 rfl (w.heap.size + 1 + 1 + 1) 30 i0 _ 2 40 Tryd.underlying28 hi hz0 hz1 hz2 rfl (by omega) ov k (flat2 vs') rfl hown2 ⟨w2.heap.size, 0, none⟩ 1 1 [sv u1, .slice v1.1 v1.2.1 v1.2.2] rfl rfl ?c11 ?c21 (by omega) ?c31 ?c41 ?c51 _ rfl ?_)
          case c11 => exact World.news_of_block (cs := #[sv u1, .slice v1.1 v1.2.1 v1.2.2]) (alloc1 w2 _)
          case c21 => simp [Value.oneCell']
          case c31 => unfold maxLen; omega
          case c41 => omega
          case c51 => simp; omega
          intro g cap w4 hown4 hgrow hat _
          have hne : ∀ x, x ≤ w.heap.size + 1 + 1 → some x ≠ ov.ownBlock := fun x hx e => by have := (hown2.lt _ e.symm).1; omega
          have hb3 := (hgrow.block (w.heap.size + 1 + 1) (by simp; omega) (hne _ (by omega))).trans HO2.out.blk
          have d1 : w4.cell? ⟨w.heap.size + 1 + 1, 1, none⟩ = some ov := by rw [Lib.cell_of_heap hb3]; rfl
          have f2 : w4.frozen? ⟨w.heap.size + 1 + 1, 1, none⟩ = false := Lib.frozen_of_heap hb3 1
          have HN : Hid (OutPs (w.heap.size + 1 + 1) clnE (ks.take k ++ [cleanT al[k]]) (w4.setCell ⟨w.heap.size + 1 + 1, 1, none⟩ (.slice (some ⟨g, 0, none⟩) (k + 1) cap))) := by
            have := Lib.hid (HO2.out.push (t := cleanT al[k]) (u := sv u1) (v := .slice v1.1 v1.2.1 v1.2.2) (w' := w4) (g := g) (cap := cap) ?_ (by rw [HLK.out]; exact hown4) hgrow hat)
            · rw [HLK.out] at this
              exact this
            · have hT2 := HT1.out.plainNow ((Below.refl w2.heap.size w2).alloc (Nat.le_refl _) (.cells #[sv u1, .slice v1.1 v1.2.1 v1.2.2] 30))
              refine hT2.more fun x hx => ⟨?_, hx.2.1, ?_, hx.2.2⟩
              · have := hx.1; omega
              · intro e
                have := (HO.out.own.lt x e.symm).2
                have h5 := hx.1
                omega
          have hb4 : Below w.heap.size w w4 := (hb.trans (hbW.mono hsz)).grown hgrow (by simp; omega) (fun x e => by have := (hown2.lt _ e).1; omega)
          have hr4 := (hgrow.block (w.heap.size + 1) (by simp; omega) (hne _ (by omega))).trans ((hbW.block _ (by omega)).trans HR.out)
          have hx4 := (hgrow.block w.heap.size (by simp; omega) (hne _ (by omega))).trans ((hbW.block _ (by omega)).trans HX.out)
          have HR4 := Lib.hid hr4
          have HX4 := Lib.hid hx4
          clear hb3 hr4 hx4
          go_wp2
          refine NoPanic.normal ?_
          go_wp2
          go_roundw
          case rel =>
            refine ⟨k + 1, by omega, by go_num, ?_, ?_, ?_, ?_⟩
            · have := HN.out
              rw [List.take_add_one, HK1.out]
              exact this
            · rw [Below.heap_setCell _ _ _ _ (by simp; omega)]
              exact HX4.out
            · rw [Below.heap_setCell _ _ _ _ (by simp)]
              exact HR4.out
            · exact hb4.setCell (by simp; omega) _
          case measure => simp [intOf]; omega
      · obtain ⟨ov, rfl⟩ := ho'.shape
        have r0 : wr.cell? ⟨w.heap.size + 1, 0, none⟩ = some (.string ⟨#[]⟩) := by rw [Lib.cell_of_heap hr]; rfl
        have r1 : wr.cell? ⟨w.heap.size + 1, 1, none⟩ = some (.slice none 0 0) := by rw [Lib.cell_of_heap hr]; rfl
        have g0 : wr.frozen? ⟨w.heap.size + 1, 0, none⟩ = false := Lib.frozen_of_heap hr 0
        have g1 : wr.frozen? ⟨w.heap.size + 1, 1, none⟩ = false := Lib.frozen_of_heap hr 1
        have HO := Lib.hid ho'
        have HRR := Lib.hid hr
        clear hB ho' hr hl hbx
        go_wp2_with fail
        have hR2 : ((wr.setCell ⟨w.heap.size + 1, 0, none⟩ (.string (bs clnE))).setCell ⟨w.heap.size + 1, 1, none⟩ (.slice ov.1 ov.2.1 ov.2.2)).heap[w.heap.size + 1]? = some (.cells #[sv clnE, .slice ov.1 ov.2.1 ov.2.2] 30 (0, 0)) := setCell_heap (setCell_heap HRR.out)
        have q0 : ((wr.setCell ⟨w.heap.size + 1, 0, none⟩ (.string (bs clnE))).setCell ⟨w.heap.size + 1, 1, none⟩ (.slice ov.1 ov.2.1 ov.2.2)).cell? ⟨w.heap.size + 1, 0, none⟩ = some (sv clnE) := by rw [Lib.cell_of_heap hR2]; rfl
        have q1 : ((wr.setCell ⟨w.heap.size + 1, 0, none⟩ (.string (bs clnE))).setCell ⟨w.heap.size + 1, 1, none⟩ (.slice ov.1 ov.2.1 ov.2.2)).cell? ⟨w.heap.size + 1, 1, none⟩ = some (.slice ov.1 ov.2.1 ov.2.2) := by rw [Lib.cell_of_heap hR2]; rfl
        refine bodyPost_ret (v := .agg #[sv clnE, .slice ov.1 ov.2.1 ov.2.2]) ?_ rfl ?_
        · clear HO HRR hb hR2 ih HT HKA
          simp [results, Tryd.results21, go_sem, q0, q1]
        · obtain rfl : k = m := by omega
          have hx : ks.take k = ks := List.take_of_length_le (by rw [HKL.out]; exact Nat.le_refl _)
          have hd := HO.out
          rw [hx] at hd
          have hD := hd.done (n := clnE) (by decide) (by rw [HKL.out]; exact hz)
          have hlt3 := lt_of_heap hd.blk
          refine ⟨_, _, rfl, ?_, (hb.setCell (by simp) _).setCell (by simp) _⟩
          rw [HND.out]
          refine (hD.keep (Kept.trans (keptGrown (row := some (w.heap.size + 1)) grownSet fun x hx => ⟨hx.2.1, ?_⟩) (keptGrown (row := some (w.heap.size + 1)) grownSet fun x hx => ⟨by rw [sizeSet]; exact hx.2.1, ?_⟩))).more fun x hx => ⟨?_, ?_, plain_set (plain_set hx.2.2)⟩
          · intro e; injection e with e; have := hx.1; omega
          · intro e; injection e with e; have := hx.1; omega
          · have := hx.1; omega
          · have := hx.2.1; simp only [sizeSet]; omega
  · have hnn : clnN n = n := by unfold clnN; rw [if_neg hbr]
    rw [hnn] at hnd
    have heq : ((bs n).toList == [101, 114, 114, 111, 114]) = false := by rw [Lib.toList_data, bs_data]; simp [hbr]
    have h3 := alloc3 w (.cells #[sv n, .slice A m c] 30) (.cells #[.string ⟨#[]⟩, .slice none 0 0] 30) (.cells #[sv n, .slice none 0 0] 30)
    have hb3 : Below w.heap.size w (((w.alloc (.cells #[sv n, .slice A m c] 30)).alloc (.cells #[.string ⟨#[]⟩, .slice none 0 0] 30)).alloc (.cells #[sv n, .slice none 0 0] 30)) := (((Below.refl _ _).alloc (Nat.le_refl _) _).alloc (by simp) _).alloc (by simp; omega) _
    rw [show w.heap.size + 2 = w.heap.size + 1 + 1 from rfl] at h3
    have HND := Lib.hid hnd
    have H3' := Lib.hid h3
    have HB3' := Lib.hid hb3
    clear hbr hnn hnd h3 hb3
    go_enter Tryd.func21, Tryd.ntmps21
    go_wp2_with fail
    obtain ⟨w3, hw3⟩ : ∃ w3, w3 = ((w.alloc (.cells #[sv n, .slice A m c] 30)).alloc (.cells #[.string ⟨#[]⟩, .slice none 0 0] 30)).alloc (.cells #[sv n, .slice none 0 0] 30) := ⟨_, rfl⟩
    have H3 : Hid (w3.heap[w.heap.size + 1 + 1]? = some (.cells #[sv n, .slice none 0 0] 30 (0, 0))) := Lib.hid (by rw [hw3]; exact H3'.out.2.2)
    have B3 : Hid (w3.heap[w.heap.size]? = some (.cells #[sv n, .slice A m c] 30 (0, 0))) := Lib.hid (by rw [hw3]; exact H3'.out.1)
    have R3 : Hid (w3.heap[w.heap.size + 1]? = some (.cells #[.string ⟨#[]⟩, .slice none 0 0] 30 (0, 0))) := Lib.hid (by rw [hw3]; exact H3'.out.2.1)
    have W3 : Hid (Below w.heap.size w w3) := Lib.hid (by rw [hw3]; exact HB3'.out)
    rw [← hw3]
    clear hw3
    have HO0 : Hid (OutPs (w.heap.size + 1 + 1) n (ks.take 0) w3) := Lib.hid (OutPs.fresh H3.out)
    have HB0 : Hid (w3.heap[w.heap.size]? = some (.cells #[sv n, .slice A m c] 30 (0, 0))) := Lib.hid B3.out
    have HR0 : Hid (w3.heap[w.heap.size + 1]? = some (.cells #[.string ⟨#[]⟩, .slice none 0 0] 30 (0, 0))) := Lib.hid R3.out
    go_loopw [4] (fun i wr => ∃ k : Nat, k ≤ m ∧ i = .int .i64 k ∧ OutPs (w.heap.size + 1 + 1) n (ks.take k) wr ∧ wr.heap[w.heap.size]? = some (.cells #[sv n, .slice A m c] 30 (0, 0)) ∧ wr.heap[w.heap.size + 1]? = some (.cells #[.string ⟨#[]⟩, .slice none 0 0] 30 (0, 0)) ∧ Below w.heap.size w wr) (fun i _ => m - (intOf i).toNat)
    case atStart => exact ⟨0, Nat.zero_le _, rfl, HO0.out, HB0.out, HR0.out, W3.out⟩
    case round =>
      obtain ⟨k, hk, rfl, ho, hbx, hr, hb⟩ := hrel
      obtain ⟨ov, vs', ho'⟩ := ho
      have hl := ho'.len
      have hB := ho'.blk
      have c0 : wr.cell? ⟨w.heap.size + 1 + 1, 0, none⟩ = some (sv n) := by rw [Lib.cell_of_heap hB]; rfl
      have c1 : wr.cell? ⟨w.heap.size + 1 + 1, 1, none⟩ = some ov := by rw [Lib.cell_of_heap hB]; rfl
      have f1 : wr.frozen? ⟨w.heap.size + 1 + 1, 1, none⟩ = false := Lib.frozen_of_heap hB 1
      have x1 : wr.cell? ⟨w.heap.size, 1, none⟩ = some (.slice A m c) := (Lib.cell_of_heap hbx _).trans rfl
      by_cases hlt : k < m
      · have hki : k < al.length := by rw [← HM.out]; exact hlt
        obtain ⟨ad, u, v, rfl, hS, e0, e1, hty⟩ := (HT.out.keep (kept_below hb)).at_ (List.getElem?_eq_getElem hki)
        obtain ⟨u, v, rfl, rfl⟩ := hty.shape
        have hk1 := HKA.out k _ (List.getElem?_eq_getElem hki)
        have HK1 := Lib.hid hk1
        have HO := Lib.hid ho'
        have HR := Lib.hid hr
        have HX := Lib.hid hbx
        have hsz := hb.size
        have hlt2 := lt_of_heap hB
        have hlx := lt_of_heap hbx
        have HBB := Lib.hid hB
        have hTw : TyIs wr.drew (Lt wr.drew.heap.size) al[k] (sv u) (.slice v.1 v.2.1 v.2.2) := TyIs.more (S := Lt w.heap.size) (TyIs.keep (w' := wr.drew) hty fun _ _ => rfl) fun _ h => Nat.lt_of_lt_of_le h hsz
        have CALL := Lib.hid (ih al[k] (List.getElem_mem hki) _ _ _ hTw)
        have hik : (0 : Int) ≤ (k : Int) ∧ (k : Int) < (m : Int) := ⟨by omega, by omega⟩
        have hSl : ad.block < wr.heap.size := Nat.lt_of_lt_of_le hS hsz
        clear hB ho' hr hbx hl hk1 hTw hty
        go_wp2_with fail
        refine wp_region_held' (fun w' => w'.cell? ⟨w.heap.size + 1 + 1, 1, none⟩ = some ov ∧ w'.cell? ⟨w.heap.size, 1, none⟩ = some (.slice (some ad) m c) ∧ w'.cell? (ad.add (k * 2)) = some (sv u) ∧ w'.cell? ⟨(ad.add (k * 2)).block, (ad.add (k * 2)).off + 1, none⟩ = some (.slice v.1 v.2.1 v.2.2)) [] [0, 1, 2, 3, 4, 5, 6] [7, 8] [9, 10, 11] (by kernel_rfl) (by kernel_rfl) ?s2 ?h2
        case s2 => exact ⟨c1, x1, e0, e1⟩
        case h2 =>
          simp only [opsAt, List.filterMap_cons, List.filterMap_nil, List.getElem?_toArray, List.getElem?_cons_succ, List.getElem?_cons_zero]
          refine wpFloat_nil ?_
          refine wpLoad_step ?vb20 rfl (fun w' hS => ?yb20) ?kb20
          case yb20 =>
            obtain ⟨h1, h2, h3, h4⟩ := hS
            go_simp
            try rfl
          case kb20 =>
          go_simp
          refine wpLoad_step ?vb21 rfl (fun w' hS => ?yb21) ?kb21
          case yb21 =>
            obtain ⟨h1, h2, h3, h4⟩ := hS
            go_simp
            try rfl
          case kb21 =>
          go_simp
          refine wpLoad_step ?vb22 rfl (fun w' hS => ?yb22) ?kb22
          case yb22 =>
            obtain ⟨h1, h2, h3, h4⟩ := hS
            go_simp
            try rfl
          case kb22 =>
          go_simp
          refine wpLoad_step ?vb23 rfl (fun w' hS => ?yb23) ?kb23
          case yb23 =>
            obtain ⟨h1, h2, h3, h4⟩ := hS
            go_simp
            try rfl
          case kb23 =>
          go_simp
          refine wpLoad_step ?vb24 rfl (fun w' hS => ?yb24) ?kb24
          case yb24 =>
            obtain ⟨h1, h2, h3, h4⟩ := hS
            go_simp
            try rfl
          case kb24 =>
          go_simp
          refine wpLoad_step ?vb25 rfl (fun w' hS => ?yb25) ?kb25
          case yb25 =>
            obtain ⟨h1, h2, h3, h4⟩ := hS
            go_simp
            try rfl
          case kb25 =>
          go_simp
          refine wpLoad_step ?vb26 rfl (fun w' hS => ?yb26) ?kb26
          case yb26 =>
            obtain ⟨h1, h2, h3, h4⟩ := hS
            go_simp
            try rfl
          case kb26 =>
          go_simp
          refine wpLoad_nil ?_
          refine wpKeep_step rfl ?_
          go_simp
          refine CALL.out.mono ?_
          rintro e w2 ⟨u1, v1, rfl, hT1, hb2⟩
          obtain ⟨u1, v1, rfl, rfl⟩ := hT1.shape
          have hb2 : Below wr.heap.size wr w2 := ((Below.refl _ _).drew).trans hb2
          have hzw : wr.heap.size ≤ w2.heap.size := hb2.size
          have HT1 : Hid (TyIs w2 (FrP w2 wr.heap.size) (cleanT al[k]) (sv u1) (.slice v1.1 v1.2.1 v1.2.2)) := Lib.hid hT1
          clear hT1
          have d1 : w2.cell? ⟨w.heap.size + 1 + 1, 1, none⟩ = some ov := (hb2.cell (p := ⟨w.heap.size + 1 + 1, 1, none⟩) hlt2).trans c1
          have d2 : w2.cell? ⟨w.heap.size, 1, none⟩ = some (.slice (some ad) m c) := (hb2.cell (p := ⟨w.heap.size, 1, none⟩) hlx).trans x1
          have d3 : w2.cell? (ad.add (k * 2)) = some (sv u) := (hb2.cell (p := ad.add (k * 2)) (by rw [blkAdd]; exact hSl)).trans e0
          have d4 : w2.cell? ⟨(ad.add (k * 2)).block, (ad.add (k * 2)).off + 1, none⟩ = some (.slice v.1 v.2.1 v.2.2) := (hb2.cell (p := ⟨(ad.add (k * 2)).block, (ad.add (k * 2)).off + 1, none⟩) (by rw [blkAdd]; exact hSl)).trans e1
          refine ⟨⟨d1, d2, d3, d4⟩, ?_⟩
          refine wpKeep_step rfl ?_
          go_simp
          refine ⟨⟨(cellAlloc (by omega)).trans d1, (cellAlloc (by omega)).trans d2, (World.cell?_of_block (heap_alloc_old w2 _ (by rw [blkAdd]; omega))).trans d3, (cellAlloc (by rw [blkAdd]; omega)).trans d4⟩, ?_⟩
          refine wpKeep_nil ?_
          have hbW : Below wr.heap.size wr (w2.alloc (.cells #[sv u1, .slice v1.1 v1.2.1 v1.2.2] 30)) := hb2.alloc (by omega) _
          have hO2 := HO.out.kept (grownOfBelow hbW) (.inl rfl)
          have hlk : (ks.take k).length = k := by rw [List.length_take, HKL.out]; omega
          have hown2 := hO2.own
          rw [hlk] at hown2
          have HO2 := Lib.hid hO2
          have HLK := Lib.hid hlk
          clear hO2 hlk
          refine (wpList_append_lies _ rfl _ _ 28 rfl (w.heap.size + 1 + 1 + 1) 30 i0 _ 2 40 Tryd.underlying28 hi hz0 hz1 hz2 rfl (by omega) ov k (flat2 vs') rfl hown2 ⟨w2.heap.size, 0, none⟩ 1 1 [sv u1, .slice v1.1 v1.2.1 v1.2.2] rfl rfl ?c12 ?c22 (by omega) ?c32 ?c42 ?c52 _ rfl ?_)
          case c12 => exact World.news_of_block (cs := #[sv u1, .slice v1.1 v1.2.1 v1.2.2]) (alloc1 w2 _)
          case c22 => simp [Value.oneCell']
          case c32 => unfold maxLen; omega
          case c42 => omega
          case c52 => simp; omega
          intro g cap w4 hown4 hgrow hat _
          have hne : ∀ x, x ≤ w.heap.size + 1 + 1 → some x ≠ ov.ownBlock := fun x hx e => by have := (hown2.lt _ e.symm).1; omega
          have hb3 := (hgrow.block (w.heap.size + 1 + 1) (by simp; omega) (hne _ (by omega))).trans HO2.out.blk
          have d1 : w4.cell? ⟨w.heap.size + 1 + 1, 1, none⟩ = some ov := by rw [Lib.cell_of_heap hb3]; rfl
          have f2 : w4.frozen? ⟨w.heap.size + 1 + 1, 1, none⟩ = false := Lib.frozen_of_heap hb3 1
          have HN : Hid (OutPs (w.heap.size + 1 + 1) n (ks.take k ++ [cleanT al[k]]) (w4.setCell ⟨w.heap.size + 1 + 1, 1, none⟩ (.slice (some ⟨g, 0, none⟩) (k + 1) cap))) := by
            have := Lib.hid (HO2.out.push (t := cleanT al[k]) (u := sv u1) (v := .slice v1.1 v1.2.1 v1.2.2) (w' := w4) (g := g) (cap := cap) ?_ (by rw [HLK.out]; exact hown4) hgrow hat)
            · rw [HLK.out] at this
              exact this
            · have hT2 := HT1.out.plainNow ((Below.refl w2.heap.size w2).alloc (Nat.le_refl _) (.cells #[sv u1, .slice v1.1 v1.2.1 v1.2.2] 30))
              refine hT2.more fun x hx => ⟨?_, hx.2.1, ?_, hx.2.2⟩
              · have := hx.1; omega
              · intro e
                have := (HO.out.own.lt x e.symm).2
                have h5 := hx.1
                omega
          have hb4 : Below w.heap.size w w4 := (hb.trans (hbW.mono hsz)).grown hgrow (by simp; omega) (fun x e => by have := (hown2.lt _ e).1; omega)
          have hr4 := (hgrow.block (w.heap.size + 1) (by simp; omega) (hne _ (by omega))).trans ((hbW.block _ (by omega)).trans HR.out)
          have hx4 := (hgrow.block w.heap.size (by simp; omega) (hne _ (by omega))).trans ((hbW.block _ (by omega)).trans HX.out)
          have HR4 := Lib.hid hr4
          have HX4 := Lib.hid hx4
          clear hb3 hr4 hx4
          go_wp2
          refine NoPanic.normal ?_
          go_wp2
          go_roundw
          case rel =>
            refine ⟨k + 1, by omega, by go_num, ?_, ?_, ?_, ?_⟩
            · have := HN.out
              rw [List.take_add_one, HK1.out]
              exact this
            · rw [Below.heap_setCell _ _ _ _ (by simp; omega)]
              exact HX4.out
            · rw [Below.heap_setCell _ _ _ _ (by simp)]
              exact HR4.out
            · exact hb4.setCell (by simp; omega) _
          case measure => simp [intOf]; omega
      · obtain ⟨ov, rfl⟩ := ho'.shape
        have r0 : wr.cell? ⟨w.heap.size + 1, 0, none⟩ = some (.string ⟨#[]⟩) := by rw [Lib.cell_of_heap hr]; rfl
        have r1 : wr.cell? ⟨w.heap.size + 1, 1, none⟩ = some (.slice none 0 0) := by rw [Lib.cell_of_heap hr]; rfl
        have g0 : wr.frozen? ⟨w.heap.size + 1, 0, none⟩ = false := Lib.frozen_of_heap hr 0
        have g1 : wr.frozen? ⟨w.heap.size + 1, 1, none⟩ = false := Lib.frozen_of_heap hr 1
        have HO := Lib.hid ho'
        have HRR := Lib.hid hr
        clear hB ho' hr hl hbx
        go_wp2_with fail
        have hR2 : ((wr.setCell ⟨w.heap.size + 1, 0, none⟩ (.string (bs n))).setCell ⟨w.heap.size + 1, 1, none⟩ (.slice ov.1 ov.2.1 ov.2.2)).heap[w.heap.size + 1]? = some (.cells #[sv n, .slice ov.1 ov.2.1 ov.2.2] 30 (0, 0)) := setCell_heap (setCell_heap HRR.out)
        have q0 : ((wr.setCell ⟨w.heap.size + 1, 0, none⟩ (.string (bs n))).setCell ⟨w.heap.size + 1, 1, none⟩ (.slice ov.1 ov.2.1 ov.2.2)).cell? ⟨w.heap.size + 1, 0, none⟩ = some (sv n) := by rw [Lib.cell_of_heap hR2]; rfl
        have q1 : ((wr.setCell ⟨w.heap.size + 1, 0, none⟩ (.string (bs n))).setCell ⟨w.heap.size + 1, 1, none⟩ (.slice ov.1 ov.2.1 ov.2.2)).cell? ⟨w.heap.size + 1, 1, none⟩ = some (.slice ov.1 ov.2.1 ov.2.2) := by rw [Lib.cell_of_heap hR2]; rfl
        refine bodyPost_ret (v := .agg #[sv n, .slice ov.1 ov.2.1 ov.2.2]) ?_ rfl ?_
        · clear HO HRR hb hR2 ih HT HKA
          simp [results, Tryd.results21, go_sem, q0, q1]
        · obtain rfl : k = m := by omega
          have hx : ks.take k = ks := List.take_of_length_le (by rw [HKL.out]; exact Nat.le_refl _)
          have hd := HO.out
          rw [hx] at hd
          have hD := hd.done (n := n) HNL.out (by rw [HKL.out]; exact hz)
          have hlt3 := lt_of_heap hd.blk
          refine ⟨_, _, rfl, ?_, (hb.setCell (by simp) _).setCell (by simp) _⟩
          rw [HND.out]
          refine (hD.keep (Kept.trans (keptGrown (row := some (w.heap.size + 1)) grownSet fun x hx => ⟨hx.2.1, ?_⟩) (keptGrown (row := some (w.heap.size + 1)) grownSet fun x hx => ⟨by rw [sizeSet]; exact hx.2.1, ?_⟩))).more fun x hx => ⟨?_, ?_, plain_set (plain_set hx.2.2)⟩
          · intro e; injection e with e; have := hx.1; omega
          · intro e; injection e with e; have := hx.1; omega
          · have := hx.1; omega
          · have := hx.2.1; simp only [sizeSet]; omega
end Go.Proofs.YtndhglcdkegigaaDoor
