/-
  The walk of made's Dice.Code: a code that the dice make.
  Conditions: the dice lie in memory; at most 100 parameters.
-/
import Derived.Test.YtkggmckfdkpldaaDoorFdK
namespace Go.Proofs.YtkggmckfdkpldaaDoor
open Go.RowKit

set_option maxHeartbeats 6400000 in
set_option maxRecDepth 100000 in
theorem madeCode_any (p dd : Nat) (xs : List Int) (w : World) (hp : p ≤ 100) (hd : DiceAt w dd xs) :
    Calls Tryd.prog 9 #[.pointer (some ⟨dd, 0, none⟩), .int .i64 (p : Int)] w (CodeMade dd xs w) := by
  obtain ⟨i0, hi, hz0, hz1, hz2⟩ := info_parts infoOp
  obtain ⟨wa, hwa⟩ : ∃ wa, wa = w.alloc (.cells #[.int .i64 0, .int .i64 0, .slice none 0 0] 37) := ⟨_, rfl⟩
  have hba : Below w.heap.size w wa := by rw [hwa]; exact (Below.refl _ _).alloc (Nat.le_refl _) _
  have HA : Hid (wa.heap[w.heap.size]? = some (.cells #[.int .i64 0, .int .i64 0, .slice none 0 0] 37 (0, 0))) := Lib.hid (by rw [hwa]; exact alloc1 _ _)
  have HZA : Hid (wa.heap.size = w.heap.size + 1) := Lib.hid (by rw [hwa]; simp)
  have hdl := hd.lt
  have HD := Lib.hid (hd.below hba)
  have HBA := Lib.hid hba
  clear hd hba
  go_enter Tryd.func9, Tryd.ntmps9
  go_wp2_with fail
  rw [← hwa]
  clear hwa
  refine (next_any 14 dd xs wa (by decide) (by decide) HD.out).mono ?_
  rintro e w1 ⟨q, hq, rfl, hD1, hk1⟩
  have HD1 := Lib.hid hD1
  have HK1 := Lib.hid hk1
  clear hD1 hk1 HD
  go_wp2_with fail
  refine (next_any 4 dd xs w1 (by decide) (by decide) HD1.out).mono ?_
  rintro e w2 ⟨q2, hq2, rfl, hD2, hk2⟩
  have HD2 := Lib.hid hD2
  have HK2 := Lib.hid (HK1.out.one hk2)
  clear hD2 hk2 HD1 HK1
  go_wp2_with fail
  obtain ⟨r, hr⟩ : ∃ r : Nat, r = p + 1 + q2 := ⟨_, rfl⟩
  have hr1 : 1 ≤ r := by omega
  have hr2 : r ≤ 200 := by omega
  have hre : ((p : Int) + 1 + q2) = (r : Int) := by omega
  obtain ⟨n, hn⟩ : ∃ n : Nat, n = 1 + q := ⟨_, rfl⟩
  have hn2 : n ≤ 14 := by omega
  have hne : (1 + (q : Int)) = (n : Int) := by omega
  rw [hre, hne]
  obtain ⟨wm, hwc⟩ : ∃ wm, wm = w2.alloc (.cells #[.int .i64 p, .int .i64 r, .slice none 0 0] 37) := ⟨_, rfl⟩
  rw [← hwc]
  have hbc : Below w2.heap.size w2 wm := by rw [hwc]; exact (Below.refl _ _).alloc (Nat.le_refl _) _
  have hhc : wm.heap[w2.heap.size]? = some (.cells #[iv p, iv r, .slice none 0 0] 37 (0, 0)) := by rw [hwc]; exact alloc1 _ _
  obtain ⟨cb, hcb⟩ : ∃ cb, cb = w2.heap.size := ⟨_, rfl⟩
  have hlt := lt_of_heap hhc
  have hdcb : dd < cb := by rw [hcb]; exact HD2.out.lt
  have HDC := Lib.hid (HD2.out.below hbc)
  have HKC := Lib.hid (HK2.out.below hbc)
  have HRB : Hid (w.heap.size < cb ∧ dd ≠ w.heap.size) := Lib.hid ⟨by rw [hcb]; have := HK2.out.size; have := HZA.out; omega, by omega⟩
  rw [← hcb] at hhc hlt ⊢
  have HHC := Lib.hid hhc
  have HLT := Lib.hid hlt
  clear hwc hbc hhc hlt hcb hre hr hn hne HD2 HK2
  go_wp2_with fail
  go_loopg [7] n (fun g i wr => ∃ (k : Nat) (vs : List OV) (v : Value), k ≤ n ∧ g = n - k ∧ i = .int .i64 k ∧ vs.length = k ∧ (∀ u ∈ vs, OpOk u.o) ∧ OpsAt wm.heap.size wr v vs ∧ wr.heap[cb]? = some (.cells #[iv p, iv r, v] 37 (0, 0)) ∧ DiceAt wr dd xs ∧ Kp (fun y => y = dd ∨ y = cb) wm wr)
  case atStart => exact ⟨0, [], .slice none 0 0, Nat.zero_le _, rfl, rfl, rfl, by simp, ⟨World.ownsRow_nil _ _ _ _, by simp⟩, HHC.out, HDC.out, Kp.refl _ _⟩
  case round =>
    obtain ⟨k, vs, v, hk, rfl, rfl, hvl, hvo, hown, hhc, hdr, hkr⟩ := hrel
    have HVL := Lib.hid hvl
    have HVO := Lib.hid hvo
    have HO := Lib.hid hown
    have HHR := Lib.hid hhc
    have HDR := Lib.hid hdr
    have HKR := Lib.hid hkr
    obtain ⟨OA, oc, rfl, _⟩ := own_slice hown.own
    clear hvl hvo hown hhc hdr hkr
    by_cases hlt : k < n
    · go_wp2_with fail
      refine (next_any 19 dd xs wr (by decide) (by decide) HDR.out).mono ?_
      rintro e wn ⟨q3, hq3, rfl, hDn, hkn⟩
      have HDN := Lib.hid hDn
      have HKN := Lib.hid hkn
      clear hDn hkn
      obtain ⟨kk, hkk⟩ : ∃ kk : Int, kk = 1 + (q3 : Int) := ⟨_, rfl⟩
      have hk1 : 1 ≤ kk ∧ kk ≤ 19 := by omega
      go_upto_block 2 with fail
      rw [← hkk]
      obtain ⟨wo, hwo⟩ : ∃ wo, wo = wn.alloc (.cells #[.int .i64 kk, .int .i64 0, .int .i64 0, .int .i64 0, .slice none 0 0, .string ⟨#[]⟩] 60) := ⟨_, rfl⟩
      rw [← hwo]
      have hbo : Below wn.heap.size wn wo := by rw [hwo]; exact (Below.refl _ _).alloc (Nat.le_refl _) _
      obtain ⟨ob, hob⟩ : ∃ ob, ob = wn.heap.size := ⟨_, rfl⟩
      have hho : wo.heap[ob]? = some (.cells #[iv kk, iv 0, iv 0, iv 0, .slice none 0 0, sv []] 60 (0, 0)) := by rw [hwo, hob]; exact alloc1 _ _
      have hom : Om dd ob xs wn wo (iv kk) (iv 0) (iv 0) (iv 0) (.slice none 0 0) (sv []) := ⟨HDN.out.below hbo, (Kp.refl _ _).below hbo, hho⟩
      have hcn : wn.heap[cb]? = some (.cells #[iv p, iv r, .slice OA vs.length oc] 37 (0, 0)) := HKN.out.heap HHR.out (by omega)
      have hcr : wo.cell? ⟨cb, 1, none⟩ = some (iv r) := (Lib.cell_of_heap ((hbo.block cb (lt_of_heap hcn)).trans hcn) _).trans rfl
      have hdo : dd < ob := by rw [hob]; exact HDN.out.lt
      have hno : wn.heap.size ≤ ob := Nat.le_of_eq hob.symm
      have hcd : cb ≠ dd := by omega
      have hco : cb < ob := by rw [hob]; exact lt_of_heap hcn
      have hbo2 : ob ≤ wn.heap.size := Nat.le_of_eq hob
      have HOB := Lib.hid hob
      have HCN := Lib.hid hcn
      have HOM := Lib.hid hom
      have HCR := Lib.hid hcr
      rw [← hob]
      clear hwo hbo hho hom hcn hob hcr hkk hq3
      refine mkSwitch rfl hk1 hr1 hr2 hn2 hlt hdo hno hbo2 hcd hco HOM.out HCR.out ?_
      intros
      rename_i wc hcut
      obtain ⟨hdx, hkx, ⟨ok_, oa_, ob_, oc_, ol_, os_⟩, LA, m, lc, hox, hok, hm, hlr⟩ := hcut
      simp only at hox hm hlr
      have hcx : wc.heap[cb]? = some (.cells #[iv p, iv r, .slice OA vs.length oc] 37 (0, 0)) := hkx.heap HCN.out hcd
      have c2 : wc.cell? ⟨cb, 2, none⟩ = some (.slice OA vs.length oc) := (Lib.cell_of_heap hcx _).trans rfl
      have z0 : wc.cell? ⟨ob, 0, none⟩ = some (iv ok_) := (Lib.cell_of_heap hox _).trans rfl
      have z1 : wc.cell? ⟨ob, 1, none⟩ = some (iv oa_) := (Lib.cell_of_heap hox _).trans rfl
      have z2 : wc.cell? ⟨ob, 2, none⟩ = some (iv ob_) := (Lib.cell_of_heap hox _).trans rfl
      have z3 : wc.cell? ⟨ob, 3, none⟩ = some (iv oc_) := (Lib.cell_of_heap hox _).trans rfl
      have z4 : wc.cell? ⟨ob, 4, none⟩ = some (.slice LA m lc) := (Lib.cell_of_heap hox _).trans rfl
      have z5 : wc.cell? ⟨ob, 5, none⟩ = some (sv os_) := (Lib.cell_of_heap hox _).trans rfl
      have hdm : dd < wm.heap.size := by have := HLT.out; omega
      have hOx := (HO.out.kp HKN.out hdm).kp hkx hdm
      have hb7 : Below wc.heap.size wc (wc.alloc (.cells #[iv ok_, iv oa_, iv ob_, iv oc_, .slice LA m lc, sv os_] 60)) := (Below.refl _ _).alloc (Nat.le_refl _) _
      have hnews : ∀ (j : Nat) (y : Value), (ovC ⟨⟨ok_, oa_, ob_, oc_, ol_, os_⟩, .slice LA m lc⟩)[j]? = some y → (wc.alloc (.cells #[iv ok_, iv oa_, iv ob_, iv oc_, .slice LA m lc, sv os_] 60)).cell? ((⟨wc.heap.size, 0, none⟩ : Addr).add j) = some y :=
        World.news_of_block (cs := #[.int .i64 ok_, .int .i64 oa_, .int .i64 ob_, .int .i64 oc_, .slice LA m lc, .string (bs os_)]) (alloc1 wc _)
      have hsz7 : (wc.alloc (.cells #[iv ok_, iv oa_, iv ob_, iv oc_, .slice LA m lc, sv os_] 60)).heap.size = wc.heap.size + 1 := by simp
      have hOw7 := hOx.below hb7
      have hsr : wm.heap.size ≤ wr.heap.size := HKR.out.size
      have hsn : wr.heap.size ≤ wn.heap.size := HKN.out.size
      have hsc : wn.heap.size ≤ wc.heap.size := hkx.size
      have HNEW := Lib.hid hnews
      have HB7 := Lib.hid hb7
      have HCX := Lib.hid hcx
      have HDX := Lib.hid hdx
      have HKX : Hid (Kp (fun y => y = dd ∨ y = cb) wm wc) := Lib.hid ((HKR.out.trans HKN.out fun _ _ e => .inl e).trans hkx fun _ _ e => .inl e)
      have HOK := Lib.hid hok
      have HIV : Hid (IntsV wc (fun b => wm.heap.size ≤ b ∧ b < wc.heap.size ∧ some b ≠ (Value.slice OA vs.length oc).ownBlock) (.slice LA m lc) ol_) := Lib.hid ⟨LA, lc, by rw [hm], hlr.more fun b hb => ⟨by have := hb.1; omega, hb.2.1, fun e => by
        have := (HO.out.own.lt b e.symm).2
        have := hb.1
        omega⟩⟩
      clear hnews hb7 hcx hdx hkx hok hm hlr hox hOx HOM HCR HDN HDR HHR HCN HOB
      go_wp2_with (at_builtin; go_loud (refine wpList_append_lies _ rfl (.tmp 193) (.tmp 195) 35 rfl wm.heap.size 60 i0 (.agg #[.int .i64 0, .int .i64 0, .int .i64 0, .int .i64 0, .slice none 0 0, .string ⟨#[]⟩]) 6 72 Tryd.underlying35 hi hz0 hz1 hz2 rfl (by decide) (.slice OA vs.length oc) vs.length _ rfl hOw7.own ⟨wc.heap.size, 0, none⟩ 1 1 (ovC ⟨⟨ok_, oa_, ob_, oc_, ol_, os_⟩, .slice LA m lc⟩) rfl rfl HNEW.out ?c2 (by decide) ?c3 ?c4 ?c5 (wc.heap.size + 1) hsz7 ?_))
      case c2 =>
        intro u hu
        simp [ovC] at hu
        rcases hu with rfl | rfl | rfl | rfl | rfl | rfl <;> rfl
      case c3 => have := HVL.out; unfold maxLen; omega
      case c4 => have := HVL.out; omega
      case c5 => omega
      rintro g8 cap8 w8 hown8 hgrow hat hlt8
      have hOp8 := hOw7.put (u := ⟨⟨ok_, oa_, ob_, oc_, ol_, os_⟩, .slice LA m lc⟩) ((HIV.out.keep fun p hp => HB7.out.cell hp.2.1).more fun b hb => ⟨hb.1, by have := hb.2.1; omega, hb.2.2⟩) hown8 hgrow (hat.elim (fun e => .inl e.symm) fun e => .inr (by rw [e, hsz7]; rfl))
      have hownlt : ∀ g, (Value.slice OA vs.length oc).ownBlock = some g → wm.heap.size ≤ g := fun g hg => (HO.out.own.lt g hg).1
      have hlt := HLT.out
      have hh8 : w8.heap[cb]? = some (.cells #[iv p, iv r, .slice OA vs.length oc] 37 (0, 0)) := (hgrow.block cb (by rw [hsz7]; have := lt_of_heap HCX.out; omega) (fun e => by have := hownlt _ e.symm; omega)).trans ((HB7.out.block cb (lt_of_heap HCX.out)).trans HCX.out)
      have hkp8 : Kp (fun y => y = dd ∨ y = cb) wm w8 := (HKX.out.below HB7.out).grown hgrow (fun r hr hlt => by have := hownlt _ hr; omega)
      have hd8 : DiceAt w8 dd xs := (HDX.out.below HB7.out).keep (Kp.grown (M := fun y => dd < y) (Kp.refl _ _) hgrow (fun g hg _ => by have := hownlt _ hg; omega)) (fun y e => e)
      have c2 : w8.cell? ⟨cb, 2, none⟩ = some (.slice OA vs.length oc) := (Lib.cell_of_heap hh8 _).trans rfl
      have f2 : w8.frozen? ⟨cb, 2, none⟩ = false := Lib.frozen_of_heap hh8 2
      have HH8 := Lib.hid hh8
      have HKP8 := Lib.hid hkp8
      have HD8 := Lib.hid hd8
      have HO8 := Lib.hid hOp8
      clear hgrow hown8 hat hOp8 hOw7 HNEW hh8 hkp8 hd8 hsz7 HO HIV z0 z1 z2 z3 z4 z5 hownlt
      go_wp2
      go_roundg (n - (k + 1))
      case measure => omega
      case rel =>
        refine ⟨k + 1, vs ++ [⟨⟨ok_, oa_, ob_, oc_, ol_, os_⟩, .slice LA m lc⟩], _, by omega, rfl, by go_num, by simp [HVL.out], fun u hu => ?_, HO8.out.set HLT.out, (setCell_heap HH8.out).trans (by simp), HD8.out.keep (setKp cb 2 w8 _) (fun y e => by rw [e]; exact hdcb), HKP8.out.setCell (fun _ => .inr rfl) _⟩
        rcases List.mem_append.1 hu with hu | hu
        · exact HVO.out u hu
        · rw [List.mem_singleton.1 hu]
          exact HOK.out
    · obtain rfl : k = n := by omega
      have hcd : cb ≠ dd := by omega
      have c1 : wr.cell? ⟨cb, 1, none⟩ = some (iv r) := (Lib.cell_of_heap HHR.out _).trans rfl
      have c2 : wr.cell? ⟨cb, 2, none⟩ = some (.slice OA vs.length oc) := (Lib.cell_of_heap HHR.out _).trans rfl
      have hdm : dd < wm.heap.size := by have := HLT.out; omega
      go_wp2_with fail
      refine wp_region_mix (fun u => u.cell? ⟨cb, 1, none⟩ = some (iv r) ∧ u.cell? ⟨cb, 2, none⟩ = some (.slice OA vs.length oc)) [(true, 0), (true, 1), (true, 2), (true, 3), (true, 4), (false, 5), (true, 6), (false, 7)] [8, 9, 10] (by kernel_rfl) (by kernel_rfl) ⟨c1, c2⟩ ?fa
      case fa =>
      simp only [mixAt, List.filterMap_cons, List.filterMap_nil, List.getElem?_toArray, List.getElem?_cons_succ, List.getElem?_cons_zero, Option.map_some]
      refine wpMix_load ?vfa0 rfl (fun w' hS => ?yfa0) ?kfa0
      case yfa0 =>
        obtain ⟨g0, g1⟩ := hS
        go_simp
        try rfl
      case kfa0 =>
      go_simp
      refine wpMix_load ?vfa1 rfl (fun w' hS => ?yfa1) ?kfa1
      case yfa1 =>
        obtain ⟨g0, g1⟩ := hS
        go_simp
        try rfl
      case kfa1 =>
      go_simp
      refine wpMix_load ?vfa2 rfl (fun w' hS => ?yfa2) ?kfa2
      case yfa2 =>
        obtain ⟨g0, g1⟩ := hS
        go_simp
        try rfl
      case kfa2 =>
      go_simp
      refine wpMix_load ?vfa3 rfl (fun w' hS => ?yfa3) ?kfa3
      case yfa3 =>
        obtain ⟨g0, g1⟩ := hS
        go_simp
        try rfl
      case kfa3 =>
      go_simp
      refine wpMix_load ?vfa4 rfl (fun w' hS => ?yfa4) ?kfa4
      case yfa4 =>
        obtain ⟨g0, g1⟩ := hS
        go_simp
        try rfl
      case kfa4 =>
      go_simp
      clear c1 c2
      refine wpMix_keep rfl ?_
      go_wp2_with fail
      refine (next_any r dd xs _ (by omega) (by omega) (HDR.out.below (Below.refl _ _).drew)).mono ?_
      rintro e w6 ⟨zz, hzz, rfl, hD6, hK6⟩
      have hK6 : Kp (fun y => y = dd) wr w6 := (Kp.refl _ wr).drew.one hK6
      have hh6 := hK6.heap HHR.out hcd
      refine ⟨⟨(Lib.cell_of_heap hh6 _).trans rfl, (Lib.cell_of_heap hh6 _).trans rfl⟩, ?_⟩
      have HH6 := Lib.hid hh6
      have HD6 := Lib.hid hD6
      have HK6 := Lib.hid hK6
      clear hh6 hD6 hK6
      refine wpMix_load ?vfb0 rfl (fun w' hS => ?yfb0) ?kfb0
      case yfb0 =>
        obtain ⟨g0, g1⟩ := hS
        go_simp
        try rfl
      case kfb0 =>
      go_simp
      refine wpMix_keep rfl ?_
      go_wp2_with fail
      have hb7 : Below w6.heap.size w6 (w6.alloc (.cells #[iv 18, iv 0, iv zz, iv 0, .slice none 0 0, sv []] 60)) := (Below.refl _ _).alloc (Nat.le_refl _) _
      have hh7 := (hb7.block cb (lt_of_heap HH6.out)).trans HH6.out
      refine ⟨⟨(Lib.cell_of_heap hh7 _).trans rfl, (Lib.cell_of_heap hh7 _).trans rfl⟩, ?_⟩
      refine wpMix_nil ?_
      simp only [opsAt, List.filterMap_cons, List.filterMap_nil, List.getElem?_toArray, List.getElem?_cons_succ, List.getElem?_cons_zero]
      have hnews : ∀ (j : Nat) (y : Value), (ovC ⟨⟨18, 0, zz, 0, [], []⟩, .slice none 0 0⟩)[j]? = some y → (w6.alloc (.cells #[iv 18, iv 0, iv zz, iv 0, .slice none 0 0, sv []] 60)).cell? ((⟨w6.heap.size, 0, none⟩ : Addr).add j) = some y :=
        World.news_of_block (cs := #[.int .i64 18, .int .i64 0, .int .i64 zz, .int .i64 0, .slice none 0 0, .string (bs [])]) (alloc1 w6 _)
      have hsz7 : (w6.alloc (.cells #[iv 18, iv 0, iv zz, iv 0, .slice none 0 0, sv []] 60)).heap.size = w6.heap.size + 1 := by simp
      have hOw7 := (HO.out.kp HK6.out hdm).below hb7
      have hsr : wm.heap.size ≤ wr.heap.size := HKR.out.size
      have hs6 : wr.heap.size ≤ w6.heap.size := HK6.out.size
      refine wpList_append_lies _ rfl (.tmp 199) (.tmp 205) 35 rfl wm.heap.size 60 i0 (.agg #[.int .i64 0, .int .i64 0, .int .i64 0, .int .i64 0, .slice none 0 0, .string ⟨#[]⟩]) 6 72 Tryd.underlying35 hi hz0 hz1 hz2 rfl (by decide) (.slice OA vs.length oc) vs.length _ rfl hOw7.own ⟨w6.heap.size, 0, none⟩ 1 1 (ovC ⟨⟨18, 0, zz, 0, [], []⟩, .slice none 0 0⟩) rfl rfl hnews ?c2 (by decide) ?c3 ?c4 ?c5 (w6.heap.size + 1) hsz7 ?_
      case c2 =>
        intro u hu
        simp [ovC] at hu
        rcases hu with rfl | rfl | rfl | rfl | rfl | rfl <;> rfl
      case c3 => have := HVL.out; unfold maxLen; omega
      case c4 => have := HVL.out; omega
      case c5 => exact Nat.le_trans (Nat.le_trans hsr hs6) hb7.size
      rintro g8 cap8 w8 hown8 hgrow hat hlt8
      have hOp8 := hOw7.put (u := ⟨⟨18, 0, zz, 0, [], []⟩, .slice none 0 0⟩) (IntsV.nil _ _) hown8 hgrow (hat.elim (fun e => .inl e.symm) fun e => .inr (by rw [e, hsz7]; rfl))
      have hownlt : ∀ g, (Value.slice OA vs.length oc).ownBlock = some g → wm.heap.size ≤ g := fun g hg => (HO.out.own.lt g hg).1
      have hlt := HLT.out
      have hrb := HRB.out
      have hh8 : w8.heap[cb]? = some (.cells #[iv p, iv r, .slice OA vs.length oc] 37 (0, 0)) := (hgrow.block cb (Nat.lt_of_lt_of_le (lt_of_heap HH6.out) hb7.size) (fun e => by have := hownlt _ e.symm; omega)).trans hh7
      have hkp8 : Kp (fun y => y = dd ∨ y = cb) wm w8 := ((HKR.out.trans HK6.out fun _ _ e => .inl e).below hb7).grown hgrow (fun r hr hlt => by have := hownlt _ hr; omega)
      have hd8 : DiceAt w8 dd xs := (HD6.out.below hb7).keep (Kp.grown (M := fun y => dd < y) (Kp.refl _ _) hgrow (fun g hg _ => by have := hownlt _ hg; omega)) (fun y e => e)
      have hwa : wa.heap.size ≤ wm.heap.size := HKC.out.size
      have hza := HZA.out
      have hrh : w8.heap[w.heap.size]? = some (.cells #[.int .i64 0, .int .i64 0, .slice none 0 0] 37 (0, 0)) := hkp8.heap (HKC.out.heap HA.out (by omega)) (by omega)
      have c0 : w8.cell? ⟨cb, 0, none⟩ = some (iv p) := (Lib.cell_of_heap hh8 _).trans rfl
      have c1 : w8.cell? ⟨cb, 1, none⟩ = some (iv r) := (Lib.cell_of_heap hh8 _).trans rfl
      have c2 : w8.cell? ⟨cb, 2, none⟩ = some (.slice OA vs.length oc) := (Lib.cell_of_heap hh8 _).trans rfl
      have f2 : w8.frozen? ⟨cb, 2, none⟩ = false := Lib.frozen_of_heap hh8 2
      obtain ⟨w9, hw9⟩ : ∃ w9, w9 = w8.setCell ⟨cb, 2, none⟩ (.slice (some ⟨g8, 0, none⟩) (vs.length + 1) cap8) := ⟨_, rfl⟩
      have hh9 : w9.heap[cb]? = some (.cells #[iv p, iv r, .slice (some ⟨g8, 0, none⟩) (vs.length + 1) cap8] 37 (0, 0)) := by rw [hw9]; exact (setCell_heap hh8).trans (by simp)
      have hO9 : OpsAt wm.heap.size w9 (.slice (some ⟨g8, 0, none⟩) (vs.length + 1) cap8) (vs ++ [⟨⟨18, 0, zz, 0, [], []⟩, .slice none 0 0⟩]) := by rw [hw9]; exact hOp8.set hlt
      have hk9 : Kp (fun y => y = dd ∨ y = cb) wm w9 := by rw [hw9]; exact hkp8.setCell (fun _ => .inr rfl) _
      have hd9 : DiceAt w9 dd xs := by rw [hw9]; exact hd8.keep (setKp cb 2 w8 _) (fun y e => by rw [e]; exact hdcb)
      have hr9 : w9.heap[w.heap.size]? = some (.cells #[.int .i64 0, .int .i64 0, .slice none 0 0] 37 (0, 0)) := by rw [hw9]; exact (setKp cb 2 w8 _).heap hrh (by omega)
      have HH9 := Lib.hid hh9
      have HO9 := Lib.hid hO9
      have HK9 := Lib.hid hk9
      have HD9 := Lib.hid hd9
      have HR9 := Lib.hid hr9
      have HW9 := Lib.hid hw9
      clear hgrow hown8 hat hOp8 hOw7 hnews hh8 hkp8 hd8 hsz7 HO hownlt hb7 hh7 hrh c0 c1 hh9 hO9 hk9 hd9 hr9 hw9
      go_wp2
      refine NoPanic.normal ?_
      rw [← HW9.out]
      have c0 : w9.cell? ⟨cb, 0, none⟩ = some (iv p) := (Lib.cell_of_heap HH9.out _).trans rfl
      have c1 : w9.cell? ⟨cb, 1, none⟩ = some (iv r) := (Lib.cell_of_heap HH9.out _).trans rfl
      have c2 : w9.cell? ⟨cb, 2, none⟩ = some (.slice (some ⟨g8, 0, none⟩) (vs.length + 1) cap8) := (Lib.cell_of_heap HH9.out _).trans rfl
      have t0 : w9.cell? ⟨w.heap.size, 0, none⟩ = some (.int .i64 0) := (Lib.cell_of_heap HR9.out _).trans rfl
      have t1 : w9.cell? ⟨w.heap.size, 1, none⟩ = some (.int .i64 0) := (Lib.cell_of_heap HR9.out _).trans rfl
      have t2 : w9.cell? ⟨w.heap.size, 2, none⟩ = some (.slice none 0 0) := (Lib.cell_of_heap HR9.out _).trans rfl
      have u0 : w9.frozen? ⟨w.heap.size, 0, none⟩ = false := Lib.frozen_of_heap HR9.out 0
      have u1 : w9.frozen? ⟨w.heap.size, 1, none⟩ = false := Lib.frozen_of_heap HR9.out 1
      have u2 : w9.frozen? ⟨w.heap.size, 2, none⟩ = false := Lib.frozen_of_heap HR9.out 2
      clear HW9
      go_wp2
      refine bodyPost_ret (v := .agg #[iv p, iv r, .slice (some ⟨g8, 0, none⟩) (vs.length + 1) cap8]) (by simp [results, Tryd.results9, go_sem, t0, t1, t2]; try rfl) rfl ?_
      have hk := keep3 w9 w.heap.size (iv p) (iv r) (.slice (some ⟨g8, 0, none⟩) (vs.length + 1) cap8)
      have hO9w : w9.ownsRow wm.heap.size 60 6 (.slice (some ⟨g8, 0, none⟩) (vs.length + 1) cap8) (vs.length + 1) (flt ovC (vs ++ [(⟨⟨18, 0, zz, 0, [], []⟩, .slice none 0 0⟩ : OV)])) := by
        have h := HO9.out.own
        rw [List.length_append] at h
        exact h
      refine ⟨⟨p, r, (vs ++ [(⟨⟨18, 0, zz, 0, [], []⟩, .slice none 0 0⟩ : OV)]).map OV.o⟩, _, rfl, ⟨some ⟨g8, 0, none⟩, cap8, vs ++ [(⟨⟨18, 0, zz, 0, [], []⟩, .slice none 0 0⟩ : OV)], by simp, rfl, ?_, fun u hu => ?_⟩, ⟨by simp; omega, by simp; omega, by have := HVL.out; simp; omega, fun o ho => ?_⟩, ?_, ?_⟩
      · exact ((Row.ofOwn hO9w fun g _ h3 h4 => (⟨h3, h4⟩ : wm.heap.size ≤ g ∧ g < w9.heap.size)).keep (hk.kept fun b hb => ⟨hb.2, fun e => by have := hb.1; omega⟩)).more fun b hb => ⟨by have := hb.1; omega, Nat.lt_of_lt_of_le hb.2 hk.size⟩
      · exact ((HO9.out.each u hu).keep (hk.kept fun b hb => ⟨hb.2.1, fun e => by have := hb.1; omega⟩)).more fun b hb => ⟨by have := hb.1; omega, Nat.lt_of_lt_of_le hb.2.1 hk.size⟩
      · simp only [List.map_append, List.mem_append, List.mem_map, List.map_cons, List.map_nil, List.mem_singleton] at ho
        rcases ho with ⟨u, hu, rfl⟩ | rfl
        · exact HVO.out u hu
        · exact ⟨⟨i64small (z := 18) (by decide) (by decide), i64small (z := 0) (by decide) (by decide), i64small (z := (zz : Int)) (by omega) (by omega), i64small (z := 0) (by decide) (by decide), by simp⟩, by simp, by simp⟩
      · exact HD9.out.keep hk (fun y e => by rw [e]; exact hdl)
      · exact ((((Kp.ofBelow HBA.out).trans HKC.out fun _ _ e => e).trans HK9.out fun x hx e => e.elim id fun e => by omega).trans hk fun x hx e => by omega)
end Go.Proofs.YtkggmckfdkpldaaDoor
