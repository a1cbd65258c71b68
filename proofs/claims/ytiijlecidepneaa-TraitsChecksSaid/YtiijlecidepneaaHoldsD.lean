/-
  The walk of the closure of Holds at a goal that is new, and of Holds.
  Conditions: the state lies in memory as it must; the goals that can be met are finitely many.
-/
import Derived.Test.YtiijlecidepneaaHoldsC
namespace Go.Proofs.Ytiijlecidepneaa
open Go.RowKit
open Go.Maps (keyOf_int_mk)

theorem dfs_grow (f : Goal → List Goal × Bool) (n : Nat) (st : DSt) (g : Goal) : st.length ≤ (dfs f n st g).2.length := by
  obtain ⟨m, hm⟩ := dfs_ext f n st g
  rw [hm]
  simp
theorem fold_grow (f : Goal → List Goal × Bool) (n : Nat) (l : List Goal) (p : Bool × DSt) : p.2.length ≤ (fold f n l p).2.length := by
  obtain ⟨m, hm⟩ := fold_ext f n l p
  rw [hm]
  simp

theorem leads_len (l : List Hdr) (s : List (List UInt8 × List UInt8)) (g : Goal) (h : ∀ x ∈ l, x.params.length ≤ 1000) : (leadsOf l s g).1.length ≤ 1000 + s.length := by
  unfold leadsOf
  split
  · simp
  · split
    · simp
    · cases hs : selOf (mineOf l g.1) g.2 0 with
      | none => simp
      | some p =>
        obtain ⟨k, a⟩ := p
        obtain ⟨j, y, hj, hy, _⟩ := selOf_some _ _ _ _ _ hs
        rw [Nat.zero_add] at hj
        subst hj
        have h1 := boundGoals_le y.params a
        have h2 := superGoals_le s g
        have h3 := h y (List.mem_filter.1 (List.mem_of_getElem? hy)).1
        simp only [hy, Option.map_some, Option.getD_some, List.length_append]
        omega

set_option maxHeartbeats 8000000 in
set_option maxRecDepth 100000 in
theorem holds_new (B : Nat) (l : List Hdr) (s : List (List UInt8 × List UInt8)) (U : List Goal) (hU : U.length ≤ 4000000) (hc : Shut (leadsOf l s) U) (n : Nat) (ih : HoldsAt B l s U n) (st : DSt) (g : Goal) (q : GV) (ov : Value) (vs : List GV) (w : World) (hS : HSt B l s st ov vs w) (hI : Inv U st)
    (hgU : g ∈ U) (hroom : U.length ≤ st.length + (n + 1)) (hg : GlIs w (Offb B ov w.heap.size) g q) (hi : ¬ 0 ≤ gIdx (st.map (·.1)) g 0) :
    Calls Try.prog 25 #[.agg #[q.1, q.2.1, q.2.2], .pointer (some ⟨B + 3, 0, none⟩), .pointer (some ⟨B + 5, 0, none⟩), .pointer (some ⟨B, 0, none⟩), .pointer (some ⟨B + 1, 0, none⟩), .pointer (some ⟨B + 6, 0, none⟩)] w (HRes B l s (dfs (leadsOf l s) (n + 1) st g) ov w) := by
  obtain ⟨i0, hi0, hz0, hz1, hz2⟩ := info_parts infoG
  have hdfs := dfs_new (f := leadsOf l s) (n := n) hi
  have hneg := gIdx_neg _ _ _ hi
  obtain ⟨A, c, rfl, hL⟩ := hS.shape
  have hlt := hI.room hgU hi
  have hI1 := hI.push hgU hi
  obtain ⟨q1, q2, q3⟩ := q
  obtain ⟨hg1, hg2⟩ := id hg
  simp only at hg1 hg2 ⊢
  subst hg1
  obtain ⟨nm, a, rfl, rfl⟩ := hg2.shape
  have hb1 : Below w.heap.size w (w.alloc (.cells #[sv g.1, sv nm, .slice a.1 a.2.1 a.2.2] 56)) := (Below.refl _ _).alloc (Nat.le_refl _) _
  have hix := indexFuncG (st.map (·.1)) A c w.heap.size vs g (sv g.1, sv nm, .slice a.1 a.2.1 a.2.2) _ (hL.now (Nat.le_refl _) hb1) (by rw [List.length_map]; omega) ⟨rfl, (hg2.more fun _ hb => hb.1).now (Nat.le_refl _) hb1⟩ (alloc1 _ _)
  rw [List.length_map, hneg] at hix
  have hS1 := hS.kept hb1
  have c3 : (w.alloc (.cells #[sv g.1, sv nm, .slice a.1 a.2.1 a.2.2] 56)).cell? ⟨B + 3, 0, none⟩ = some (.slice A st.length c) := by rw [Lib.cell_of_heap hS1.gblk]; rfl
  obtain ⟨ns, hns⟩ : ∃ ns, ns = st.length := ⟨_, rfl⟩
  rw [← hns] at hix c3 hlt hroom hS hg ⊢
  have HIX := Lib.hid hix
  have HS := Lib.hid hS
  have HNS := Lib.hid hns
  have HG := Lib.hid hg
  have HDFS := Lib.hid hdfs
  have HI1 := Lib.hid hI1
  clear hix hS hL hg hg2 hS1 hi hdfs hneg hI1 hns
  go_enter Try.func25, Try.ntmps25
  go_wp2_with fail
  refine HIX.out.mono ?_
  rintro e w2 ⟨rfl, hb2⟩
  have hb12 : Below w.heap.size w w2 := hb1.trans (hb2.mono hb1.size)
  have hS2 := HS.out.kept hb12
  have c3 : w2.cell? ⟨B + 3, 0, none⟩ = some (.slice A ns c) := by rw [Lib.cell_of_heap hS2.gblk]; rfl
  have hB2 : BoxAt w2 w.heap.size (sv g.1, sv nm, .slice a.1 a.2.1 a.2.2) := BoxAt.now (alloc1 _ _) hb2
  have d0 : w2.cell? ⟨w.heap.size, 0, none⟩ = some (sv g.1) := by rw [Lib.cell_of_heap hB2]; rfl
  have d1 : w2.cell? ⟨w.heap.size, 1, none⟩ = some (sv nm) := by rw [Lib.cell_of_heap hB2]; rfl
  have d2 : w2.cell? ⟨w.heap.size, 2, none⟩ = some (.slice a.1 a.2.1 a.2.2) := by rw [Lib.cell_of_heap hB2]; rfl
  have hS2a := hS2.kept ((Below.refl _ _).alloc (Nat.le_refl _) (.cells #[sv g.1, sv nm, .slice a.1 a.2.1 a.2.2] 56))
  have hown := hS2a.own
  rw [← HNS.out] at hown
  have hbs := (hb12.alloc hb12.size (.cells #[sv g.1, sv nm, .slice a.1 a.2.1 a.2.2] 56))
  have hB7 : B + 7 ≤ w2.heap.size := lt_of_heap hS2.ctx.hblk
  have hw2 : w.heap.size < w2.heap.size := lt_of_heap hB2
  have HS2A := Lib.hid hS2a
  have HB2 := Lib.hid hB2
  have HBS := Lib.hid hbs
  clear hS2 hS2a hB2 hbs
  go_wp2_with (at_builtin; refine wpList_append_lies _ rfl _ _ 75 rfl (B + 7) 56 i0 _ 3 56 Try.underlying75 hi0 hz0 hz1 hz2 rfl (by omega) _ ns (flat3 vs) rfl hown ⟨w2.heap.size, 0, none⟩ 1 1 [sv g.1, sv nm, .slice a.1 a.2.1 a.2.2] rfl rfl ?c1 ?c2 (by omega) ?c3 ?c4 ?c5 _ rfl ?_)
  case c1 => exact World.news_of_block (cs := #[sv g.1, sv nm, .slice a.1 a.2.1 a.2.2]) (alloc1 w2 _)
  case c2 => simp [Value.oneCell']
  case c3 => unfold maxLen; omega
  case c4 => omega
  case c5 => simp; omega
  intro ga cap w3 hown3 hgrow hat _
  obtain ⟨hS3, hK3⟩ := HS2A.out.push (x := g) (q := (sv g.1, sv nm, .slice a.1 a.2.1 a.2.2)) (g := ga) (cap := cap) (HG.out.keep (kept_below HBS.out |>.sub fun y hy => hy.1) |>.more fun y hy => ⟨Nat.lt_of_lt_of_le hy.1 HBS.out.size, hy.2⟩) hgrow (by rw [← HNS.out]; exact hown3) (by simpa using hat)
  rw [← HNS.out] at hS3 hK3
  have hg3 : w3.heap[B + 3]? = some (.cells #[.slice A ns c] 75 (0, 0)) := (hgrow.block _ (by simp; omega) (fun e => by have := (hown.lt _ e.symm).1; omega)).trans HS2A.out.gblk
  have c33 : w3.cell? ⟨B + 3, 0, none⟩ = some (.slice A ns c) := by rw [Lib.cell_of_heap hg3]; rfl
  have f33 : w3.frozen? ⟨B + 3, 0, none⟩ = false := Lib.frozen_of_heap hg3 0
  have hoff : Offb B (.slice A ns c) w2.heap.size w.heap.size := by
    refine ⟨hw2, ?_, ?_, ?_⟩
    · have := lt_of_heap HS.out.gblk; omega
    · have := lt_of_heap HS.out.gblk; have := lt_of_heap HS.out.ctx.hblk; omega
    · intro e
      have := (HS.out.own.lt _ e.symm).2
      omega
  have hw3 : w2.heap.size + 1 ≤ w3.heap.size := by have := hgrow.size; simpa using this
  obtain ⟨w4, hw4⟩ : ∃ w4, w4 = w3.setCell ⟨B + 3, 0, none⟩ (.slice (some ⟨ga, 0, none⟩) (ns + 1) cap) := ⟨_, rfl⟩
  obtain ⟨ov4, hov4⟩ : ∃ ov4, ov4 = Value.slice (some ⟨ga, 0, none⟩) (ns + 1) cap := ⟨_, rfl⟩
  rw [← hov4] at hw4
  rw [← hov4, ← hw4] at hS3 hK3
  have hK4 : Kp (MB B (.slice A ns c)) w w4 := (Kp.ofBelow HBS.out).trans hK3 fun y _ hy => hy
  have hB4 : BoxAt w4 w.heap.size (sv g.1, sv nm, .slice a.1 a.2.1 a.2.2) := hK3.heap (HB2.out.now ((Below.refl _ _).alloc (Nat.le_refl _) _)) hoff.not
  have hov : ∀ y, ov4.ownBlock = some y → (Value.slice A ns c).ownBlock = some y ∨ w2.heap.size ≤ y := fun y hy => by
    rw [hov4] at hy
    have e : ga = y := Option.some.inj hy
    rcases hat with e2 | e2
    · left; rw [e2, e]
    · right; omega
  have hs4 : w2.heap.size + 1 ≤ w4.heap.size := by rw [hw4, sizeSet]; exact hw3
  have HW4 := Lib.hid hw4
  have HOV4 := Lib.hid hov4
  have HS3 := Lib.hid hS3
  have HK4 := Lib.hid hK4
  have HB4 := Lib.hid hB4
  have HOV := Lib.hid hov
  clear hS3 hK3 hg3 hown3 hgrow hat hw4 hov4 hK4 hB4 hov hw3 d0 d1 d2
  obtain ⟨LA, lc, qs, hl1, hl2, hl3⟩ := HS3.out.ctx.lblk
  obtain ⟨SA, sc, hs1, hs2⟩ := HS3.out.ctx.sblk
  have k0 : w4.cell? ⟨B, 0, none⟩ = some (.slice LA l.length lc) := by rw [Lib.cell_of_heap hl1]; rfl
  have k1 : w4.cell? ⟨B + 1, 0, none⟩ = some (.slice SA s.length sc) := by rw [Lib.cell_of_heap hs1]; rfl
  have d0 : w4.cell? ⟨w.heap.size, 0, none⟩ = some (sv g.1) := by rw [Lib.cell_of_heap HB4.out]; rfl
  have d1 : w4.cell? ⟨w.heap.size, 1, none⟩ = some (sv nm) := by rw [Lib.cell_of_heap HB4.out]; rfl
  have d2 : w4.cell? ⟨w.heap.size, 2, none⟩ = some (.slice a.1 a.2.1 a.2.2) := by rw [Lib.cell_of_heap HB4.out]; rfl
  rw [HW4.out, HOV4.out] at k0 k1 d0 d1 d2
  have hlow : ∀ b, Lt B b → Lt w4.heap.size b := fun b hb => by unfold Lt at *; omega
  have hld := leads_any l s g LA SA lc sc (sv g.1, sv nm, .slice a.1 a.2.1 a.2.2) qs w4 (hl3.more hlow) hl2 (hs2.more hlow) HS3.out.ctx.few ((HG.out.keep (HK4.out.kept fun y hy => ⟨hy.1, hy.not⟩)).more fun y hy => Nat.lt_of_lt_of_le hy.1 (by omega))
  have HLD := Lib.hid hld
  clear hl1 hl2 hs1 hs2 hld
  go_wp2_with fail
  rw [show w3.setCell ⟨B + 3, 0, none⟩ (.slice (some ⟨ga, 0, none⟩) (ns + 1) cap) = w4 from by rw [HW4.out, HOV4.out]]
  refine HLD.out.mono ?_
  rintro e w5 ⟨NA, nn, nc, nv, rfl, hnn, hN, hb5⟩
  have hs5 := hb5.size
  have hS5 := HS3.out.kept hb5
  have hnb : nn ≤ 4001000 := by
    have h1 := leads_len l s g fun x hx => by
      obtain ⟨i, hi, e⟩ := List.mem_iff_getElem.1 hx
      have h2 := hl3.len
      have h3 := hl3.each i x (qs[i]'(by rw [h2]; exact hi)) (by rw [List.getElem?_eq_getElem hi, e]) (List.getElem?_eq_getElem _)
      exact h3.few
    have h2 := HS3.out.ctx.few
    omega
  clear k0 k1 d0 d1 d2 hl3
  obtain ⟨r0, hr0⟩ : ∃ r0, r0 = (leadsOf l s g).2 := ⟨_, rfl⟩
  obtain ⟨nx, hnx⟩ : ∃ nx, nx = (leadsOf l s g).1 := ⟨_, rfl⟩
  rw [← hnx] at hnn hN
  have HNN := Lib.hid hnn
  have HN := Lib.hid hN
  have HR0 := Lib.hid hr0
  have HNX := Lib.hid hnx
  have HS5 := Lib.hid hS5
  clear hnn hN hr0 hnx hS5
  go_wp2_with fail
  go_loopw [10, 36] (fun ok i wr => ∃ k : Nat, k ≤ nn ∧ i = .int .i64 k ∧ ∃ (ovk : Value) (vk : List GV), ok = .bool (fold (leadsOf l s) n (nx.take k) (r0, st ++ [(g, none)])).1 ∧ HSt B l s (fold (leadsOf l s) n (nx.take k) (r0, st ++ [(g, none)])).2 ovk vk wr ∧ Kp (MB B ov4) w5 wr ∧ ∀ y, ovk.ownBlock = some y → ov4.ownBlock = some y ∨ w5.heap.size ≤ y) (fun _ i _ => nn - (intOf i).toNat)
  case atStart => exact ⟨0, Nat.zero_le _, rfl, ov4, _, by rw [← HR0.out]; rfl, HS5.out, Kp.refl _ _, fun y hy => .inl hy⟩
  case round =>
    obtain ⟨k, hk, rfl, ovk, vk, hokk, hSk, hKk, hok⟩ := hrel
    obtain ⟨pb, pst, hp⟩ : ∃ pb pst, fold (leadsOf l s) n (nx.take k) (r0, st ++ [(g, none)]) = (pb, pst) := ⟨_, _, rfl⟩
    rw [hp] at hokk hSk
    simp only at hokk hSk
    subst hokk
    have HP := Lib.hid hp
    have hsr := hKk.size
    have hI4 := fold_inv hc n (nx.take k) (r0, st ++ [(g, none)]) (fun x hx => hc g hgU x (by rw [← HNX.out]; exact List.mem_of_mem_take hx)) HI1.out
    have hgr := fold_grow (leadsOf l s) n (nx.take k) (r0, st ++ [(g, none)])
    rw [hp] at hI4 hgr
    simp only [List.length_append, List.length_singleton] at hI4 hgr
    rw [← HNS.out] at hgr
    have HSK := Lib.hid hSk
    have HKK := Lib.hid hKk
    have HOK := Lib.hid hok
    have HI4 := Lib.hid hI4
    have ho4 : ∀ y, ov4.ownBlock = some y → y < w4.heap.size := fun y hy => (HS3.out.own.lt y hy).2
    have hb34 : B + 7 ≤ w4.heap.size := by omega
    clear hp hSk hKk hok hI4
    by_cases hlt : k < nn
    · have hkx : k < nx.length := by rw [← HNN.out]; exact hlt
      have hxe : nx.take (k + 1) = nx.take k ++ [nx[k]] := List.take_succ_eq_append_getElem hkx
      have hNr := HN.out.keep (HKK.out.kept fun y hy => ⟨hy.2, fun e => by
        have h1 := hy.1
        rcases e with e | e | e
        · omega
        · omega
        · have := ho4 y e.symm; omega⟩)
      obtain ⟨ad, p, rfl, hSb, _, e0, e1, e2, hGl⟩ := hNr.at_ (List.getElem?_eq_getElem hkx)
      obtain ⟨p1, p2, p3⟩ := p
      obtain ⟨hx1, hx2⟩ := id hGl
      simp only at hx1 hx2 e0 e1 e2
      subst hx1
      obtain ⟨m, b, rfl, rfl⟩ := hx2.shape
      have hh := HSK.out.ctx.hblk
      have hhl := lt_of_heap hh
      have hha := (heap_alloc_old wr (.cells #[sv nx[k].1, sv m, .slice b.1 b.2.1 b.2.2] 56) hhl).trans hh
      have k6 : (wr.alloc (.cells #[sv nx[k].1, sv m, .slice b.1 b.2.1 b.2.2] 56)).cell? ⟨B + 6, 0, none⟩ = some (holdsV B) := by rw [Lib.cell_of_heap hha]; rfl
      have hba : Below wr.heap.size wr (wr.alloc (.cells #[sv nx[k].1, sv m, .slice b.1 b.2.1 b.2.2] 56)) := (Below.refl _ _).alloc (Nat.le_refl _) _
      have hSa := HSK.out.kept hba
      have hGa : GlIs (wr.alloc (.cells #[sv nx[k].1, sv m, .slice b.1 b.2.1 b.2.2] 56)) (Offb B ovk (wr.alloc (.cells #[sv nx[k].1, sv m, .slice b.1 b.2.1 b.2.2] 56)).heap.size) nx[k] (sv nx[k].1, sv m, .slice b.1 b.2.1 b.2.2) := by
        refine (hGl.keep ((kept_below hba).sub fun y hy => Nat.lt_of_lt_of_le hy.2 hsr)).more fun y hy => ⟨by have := hy.2; simp; omega, by have := hy.1; omega, by have := hy.1; omega, fun e => ?_⟩
        rcases HOK.out y e.symm with h | h
        · have := ho4 y h; have := hy.1; omega
        · have := hy.2; omega
      have HSA := Lib.hid hSa
      have HGA := Lib.hid hGa
      have HXE := Lib.hid hxe
      have hxU : nx[k] ∈ U := hc g hgU _ (by rw [← HNX.out]; exact List.getElem_mem hkx)
      have HXU := Lib.hid hxU
      clear hh hha hSa hGa hxe hNr hGl hx2 hxU
      cases pb with
      | true =>
        go_wp2_with fail
        refine (ih pst nx[k] (sv nx[k].1, sv m, .slice b.1 b.2.1 b.2.2) ovk vk _ HSA.out HI4.out HXU.out (by omega) HGA.out).mono ?_
        rintro e w6 ⟨ov6, vs6, rfl, hS6, hK6, hov6⟩
        have HS6 := Lib.hid hS6
        have hK7 : Kp (MB B ov4) w5 w6 := (HKK.out.below hba).trans hK6 fun y hy e => by
          rcases e with e | e | e
          · exact .inl e
          · exact .inr (.inl e)
          · rcases HOK.out y e.symm with h | h
            · exact .inr (.inr h.symm)
            · omega
        have hok7 : ∀ y, ov6.ownBlock = some y → ov4.ownBlock = some y ∨ w5.heap.size ≤ y := fun y hy => by
          rcases hov6 y hy with h | h
          · exact HOK.out y h
          · right; simp at h; omega
        have HK7 := Lib.hid hK7
        have HOK7 := Lib.hid hok7
        clear hS6 hK6 hov6 hK7 hok7
        go_wp2_with fail
        go_roundw
        case rel =>
          refine ⟨k + 1, by omega, by go_num, ov6, vs6, ?_, ?_, HK7.out, HOK7.out⟩
          · rw [HXE.out, fold_snoc, HP.out]; rfl
          · rw [HXE.out, fold_snoc, HP.out]; exact HS6.out
        case measure => simp [intOf]; omega
      | false =>
        have hK7 := HKK.out.below hba
        have HK7 := Lib.hid hK7
        clear hK7
        go_wp2_with fail
        go_roundw
        case rel =>
          refine ⟨k + 1, by omega, by go_num, ovk, vk, ?_, ?_, HK7.out, HOK.out⟩
          · rw [HXE.out, fold_snoc, HP.out]; rfl
          · rw [HXE.out, fold_snoc, HP.out]; exact HSA.out
        case measure => simp [intOf]; omega
    · obtain rfl : k = nn := by omega
      have hg0 : ¬ k < k := hlt
      have htk : nx.take k = nx := List.take_of_length_le (by rw [← HNN.out]; exact Nat.le_refl _)
      obtain ⟨m, hm⟩ := fold_ext (leadsOf l s) n (nx.take k) (r0, st ++ [(g, none)])
      have hp2 := HP.out
      rw [hp2] at hm
      simp only [List.append_assoc, List.singleton_append] at hm
      subst hm
      obtain ⟨nD, D, hD1, hD2, hD3⟩ := HSK.out.known
      have hdl := Nat.le_trans hD1 (decd_le _)
      have hil := HI4.out.le
      have hDm : ∃ es, D = .map es := by
        obtain ⟨es, ck, _, _, _, e⟩ := hD2
        exact ⟨_, e⟩
      have k5 : wr.cell? ⟨B + 5, 0, none⟩ = some (.map (some (B + 4))) := by rw [Lib.cell_of_heap HSK.out.ctx.mblk]; rfl
      have hkey := keyOf_int_mk Try.underlying3 (a := ((ns : Nat) : Int)) (WalkArith.wf_i64 (by omega))
      have HD3 := Lib.hid hD3
      rw [htk] at hp2
      have HP2 := Lib.hid hp2
      have HDM := Lib.hid hDm
      clear hD3 hp2 htk hDm
      go_wp2_with (at_mapUpdate; refine wpList_mapUpdate_own _ rfl _ _ _ 76 rfl 3 4 keyLaw Try.underlying76 (plainElem (H := Unit) Try.prog 4) (B + 4) nD D rfl hD2 (by unfold maxLen; omega) _ _ _ rfl rfl hkey _ [] (plainElem_bool Try.underlying4 pb) ?_)
      intro w7 hm7 hg7
      rw [HNS.out] at hm7
      obtain ⟨hS7, hK7⟩ := HSK.out.mark (ok := pb) hD1 HDM.out HD3.out hg7 hm7
      have HS7 := Lib.hid hS7
      have hb45 : Below w4.heap.size w4 w5 := hb5
      have hK8 : Kp (MB B (.slice A ns c)) w w7 := ((HK4.out.below hb5).trans HKK.out fun y hy e => by
          rcases e with e | e | e
          · exact .inl e
          · exact .inr (.inl e)
          · rcases HOV.out y e.symm with h | h
            · exact .inr (.inr h.symm)
            · omega).trans hK7 fun y hy e => by
          rcases e with e | e | e
          · exact .inl e
          · exact .inr (.inl e)
          · rcases HOK.out y e.symm with h | h
            · rcases HOV.out y h with h | h
              · exact .inr (.inr h.symm)
              · omega
            · omega
      have hok8 : ∀ y, ovk.ownBlock = some y → (Value.slice A ns c).ownBlock = some y ∨ w.heap.size ≤ y := fun y hy => by
        rcases HOK.out y hy with h | h
        · rcases HOV.out y h with h | h
          · exact .inl h
          · right; omega
        · right; omega
      have HK8 := Lib.hid hK8
      have HOK8 := Lib.hid hok8
      clear hS7 hK7 hK8 hok8 hm7 hg7 hD2
      go_wp2
      go_ret
      rw [HDFS.out, ← HNX.out, ← HR0.out, HP2.out]
      exact ⟨ovk, vk, rfl, HS7.out, HK8.out, HOK8.out⟩

theorem holds_at (B : Nat) (l : List Hdr) (s : List (List UInt8 × List UInt8)) (U : List Goal) (hU : U.length ≤ 4000000) (hc : Shut (leadsOf l s) U) : ∀ n, HoldsAt B l s U n
  | 0 => fun st g q ov vs w hS hI hgU hroom hg => by
    by_cases hi : 0 ≤ gIdx (st.map (·.1)) g 0
    · exact holds_old B l s U hU 0 st g q ov vs w hS hI hg hi
    · have := hI.room hgU hi
      omega
  | n + 1 => fun st g q ov vs w hS hI hgU hroom hg => by
    by_cases hi : 0 ≤ gIdx (st.map (·.1)) g 0
    · exact holds_old B l s U hU (n + 1) st g q ov vs w hS hI hg hi
    · exact holds_new B l s U hU hc n (holds_at B l s U hU hc n) st g q ov vs w hS hI hgU hroom hg hi
end Go.Proofs.Ytiijlecidepneaa
