/-
  The walk of ref06.All.
  Conditions: the faces lie in memory and are not too large.
-/
import Derived.Test.YtcliegpofhjpcaaMdW
import Derived.Test.YtcliegpofhjpcaaMdR
namespace Go.Proofs.Ytcliegpofhjpcaa
open Go.RowKit

theorem ownDrew {w : World} {base : Nat} {e : TypeId} {size n : Nat} {v : Value} {xs : List Value} (h : w.ownsRow base e size v n xs) (o : Obj) : (w.drew.alloc o).ownsRow base e size v n xs := h.alloc o
set_option maxHeartbeats 1600000 in
set_option maxRecDepth 100000 in
theorem rall_any (l : List Face) (fv : Value) (w : World) (hfit : Fit l) (hF : FcsV w (Lt w.heap.size) fv l) :
    Calls Try.prog 11 #[fv] w (AllRes l w) := by
  obtain ⟨n, hn⟩ : ∃ n, n = l.length := ⟨_, rfl⟩
  obtain ⟨FA, fc, fvs, rfl, hfl, hFR, hFV⟩ := hF
  have hnl := hfit.few
  rw [← hn] at hnl ⊢
  obtain ⟨i0, hi, hz0, hz1, hz2⟩ := info_parts infoB2
  obtain ⟨wc, hmk, hIown, hIgr⟩ := run_make_full (P := Try.prog) w w.heap.size 23 33 i0 _ 1 Try.underlying23 hi hz0 hz1 .i64 .i64 n (by rw [hz2]; omega) (by unfold maxLen; omega) (Nat.le_refl _)
  have hbc : Below w.heap.size w wc := ⟨hIgr.os, hIgr.tape, hIgr.output, hIgr.size, fun y hy => hIgr.block y hy (by simp)⟩
  rw [madeN] at hIown
  obtain ⟨g, hgE⟩ : ∃ g, g = w.heap.size := ⟨_, rfl⟩
  have hglt := hIown.lt w.heap.size rfl
  have hHOUT : OutsAt w.heap.size g wc (iterS l 0) := ⟨List.replicate n (.slice none 0 0), by
    have hll := iterS_len l 0
    rw [hll, ← hn, hgE]
    exact hIown, fun i v x hv hx => by
    obtain ⟨p1, e1⟩ := List.getElem?_eq_some_iff.1 hv
    rw [List.getElem_replicate] at e1
    subst e1
    have hx0 : x = [] := by
      unfold iterS startL at hx
      obtain ⟨p2, e2⟩ := List.getElem?_eq_some_iff.1 hx
      rw [List.getElem_replicate] at e2
      exact e2.symm
    subst hx0
    exact ⟨none, 0, rfl, Nat.le_refl _, Row.nil _ _ _⟩⟩
  rw [← hgE] at hmk hglt
  have HN := Lib.hid hn
  have HFIT := Lib.hid hfit
  have HFR := Lib.hid hFR
  have HFV := Lib.hid hFV
  have HFL := Lib.hid hfl
  have HBC := Lib.hid hbc
  have HOUT := Lib.hid hHOUT
  have HGE := Lib.hid hgE
  have hmg : w.heap.size ≤ g := by omega
  have hgc := hglt.2
  clear hn hfit hFR hFV hfl hbc hIown hIgr hHOUT hgE
  go_enter Try.func11, Try.ntmps11
  go_wp2_with fail
  clear hmk
  go_loopw [4] (fun fv wj => ∃ (t : Nat) (bq : Bool), fv = .bool bq ∧ OutsAt w.heap.size g wj (iterS l t) ∧ Kp (fun y => y = g) wc wj ∧ (bq = false → sweep l (iterS l t) = iterS l t)) (fun fv wj => 2 * (n * (univ l).length - totAt wj g n) + flagN fv)
  case atStart => exact ⟨0, true, rfl, HOUT.out, Kp.refl _ _, fun h => by cases h⟩
  case round =>
    clear HOUT
    obtain ⟨t, bq, rfl, hO, hK, hq⟩ := hrel
    have hszt := hK.size
    cases bq with
    | false =>
      have HRES : Hid (AllRes l w (.returned (.slice (some ⟨g, 0, none⟩) n n)) wr) := Lib.hid ⟨iterS l t, g, by rw [iterS_len, ← HN.out], ⟨t, rfl, hq rfl⟩, hO, kp_below HBC.out hK fun y e => by omega⟩
      clear hO hK hq
      go_wp2
      go_ret
      exact HRES.out
    | true =>
      obtain ⟨cur, hcur⟩ : ∃ cur, cur = iterS l t := ⟨_, rfl⟩
      have hI := Inv.iter l t
      have htot := hO.tot
      rw [iterS_len, ← HN.out, ← hcur] at htot
      rw [← hcur] at hO hI
      have HTOT := Lib.hid htot
      have HI := Lib.hid hI
      have HCUR := Lib.hid hcur
      have HO := Lib.hid hO
      have HK := Lib.hid hK
      obtain ⟨wT, hwT⟩ : ∃ wT, wT = wr := ⟨_, rfl⟩
      rw [← hwT] at HTOT
      have HWT := Lib.hid hwT
      clear hO hK hq htot hI hcur hwT
      go_wp2_with fail
      go_loopw [4, 5] (fun fv i wj => ∃ (k : Nat) (bq : Bool), k ≤ n ∧ i = .int .i64 k ∧ fv = .bool bq ∧ OutsAt w.heap.size g wj (sweepTo l cur k) ∧ Kp (fun y => y = g) wc wj ∧ (bq = false → sweepTo l cur k = cur) ∧ (bq = true → tot cur < tot (sweepTo l cur k))) (fun _ i _ => n - (intOf i).toNat)
      case atStart => exact ⟨0, false, by omega, rfl, rfl, HO.out, HK.out, fun _ => rfl, fun h => by cases h⟩
      case round =>
        clear HO HK
        obtain ⟨k, bq, hkn, rfl, rfl, hO, hK, hq1, hq2⟩ := hrel
        have hszk := hK.size
        have HO := Lib.hid hO
        have HK := Lib.hid hK
        have HQ1 := Lib.hid hq1
        have HQ2 := Lib.hid hq2
        clear hO hK hq1 hq2
        by_cases hlt : k < n
        · obtain ⟨f, hf⟩ : ∃ f, l[k]? = some f := ⟨_, List.getElem?_eq_getElem (by rw [← HN.out]; exact hlt)⟩
          obtain ⟨u, hu⟩ : ∃ u, fvs[k]? = some u := ⟨_, List.getElem?_eq_getElem (by rw [HFL.out, ← HN.out]; exact hlt)⟩
          have hkeep : Kept (Lt w.heap.size) w wr := (kept_below HBC.out).trans (HK.out.kept fun b hb => ⟨by unfold Lt at hb; omega, by unfold Lt at hb; omega⟩)
          obtain ⟨ad, hFA, hFS, a0, a1, a2⟩ := fv_at (HFR.out.keep hkeep) hu
          obtain ⟨hmd, ⟨OA, oc, hov, hOR⟩, PA, pc, hpv, hPR⟩ := HFV.out k u f hu hf
          obtain ⟨umd, uov, upv⟩ := u
          simp only at hmd hov hpv a0 a1 a2
          subst hmd
          subst hov
          subst hpv
          have hik : (0 : Int) ≤ (k : Int) ∧ (k : Int) < (n : Int) := ⟨by omega, by omega⟩
          obtain ⟨zo, hzo⟩ : ∃ zo, zo = f.own.length := ⟨_, rfl⟩
          obtain ⟨zp, hzp⟩ : ∃ zp, zp = f.pub.length := ⟨_, rfl⟩
          rw [← hzo] at a1
          rw [← hzp] at a2
          have hzpl := HFIT.out.pub f (List.mem_of_getElem? hf)
          rw [← hzp] at hzpl
          obtain ⟨cu, hcu⟩ : ∃ cu, cu = sweepTo l cur k := ⟨_, rfl⟩
          have hIk := (HI.out.sweepTo k).1
          rw [← hcu] at hIk
          have ho := HO.out
          rw [← hcu] at ho
          have HF := Lib.hid hf
          have HZO := Lib.hid hzo
          have HZP := Lib.hid hzp
          have HCU := Lib.hid hcu
          have HIK := Lib.hid hIk
          have HOR := Lib.hid hOR
          have HPR := Lib.hid hPR
          obtain ⟨w1, hw1⟩ : ∃ w1, w1 = wr := ⟨_, rfl⟩
          have HO1 : Hid (OutsAt w.heap.size g w1 cu) := Lib.hid (hw1 ▸ ho)
          have HK1 : Hid (Kp (fun y => y = g) wc w1) := Lib.hid (hw1 ▸ HK.out)
          have HKW1 : Hid (Kept (Lt w.heap.size) w w1) := Lib.hid (hw1 ▸ hkeep)
          have HCELL : Hid (w1.cell? (ad.add (k * 3)) = some (sv f.md) ∧ w1.cell? ⟨(ad.add (k * 3)).block, (ad.add (k * 3)).off + 1, none⟩ = some (.slice OA zo oc) ∧ w1.cell? ⟨(ad.add (k * 3)).block, (ad.add (k * 3)).off + 2, none⟩ = some (.slice PA zp pc)) := Lib.hid (hw1 ▸ ⟨a0, a1, a2⟩)
          have hgw1 : g < w1.heap.size := by rw [hw1]; omega
          have hww1 : w.heap.size < w1.heap.size := by rw [hw1]; omega
          have HFAE := Lib.hid hFA
          subst hFA
          clear hzo hzp hcu hf hu hOR hPR hIk hkeep ho a0 a1 a2 hFS
          go_wp2_with fail
          rw [← hw1]
          clear hw1
          go_loopw [6, 7] (fun v i wj => ∃ j : Nat, j ≤ zp ∧ i = .int .i64 j ∧ Below w1.heap.size w1 wj ∧ OthAt w.heap.size g w1 wj v (othersOf l cu (f.pub.take j))) (fun _ i _ => zp - (intOf i).toNat)
          case atStart => exact ⟨0, by omega, rfl, Below.refl _ _, [], World.ownsRow_nil _ _ _ _, fun i u x h => by simp at h⟩
          case round =>
            obtain ⟨j, hjz, rfl, hB1, hoth⟩ := hrel
            have hszj := hB1.size
            have HB1 := Lib.hid hB1
            have HOTH := Lib.hid hoth
            have a0 := (hB1.cell (block_lt_of_cell HCELL.out.1)).trans HCELL.out.1
            have a1 := (hB1.cell (block_lt_of_cell HCELL.out.2.1)).trans HCELL.out.2.1
            have a2 := (hB1.cell (block_lt_of_cell HCELL.out.2.2)).trans HCELL.out.2.2
            clear hB1 hoth
            by_cases hltj : j < zp
            · obtain ⟨m', hm'⟩ : ∃ m', f.pub[j]? = some m' := ⟨_, List.getElem?_eq_getElem (by rw [← HZP.out]; exact hltj)⟩
              obtain ⟨pd, hPA, _, p0⟩ := (HPR.out.keep (HKW1.out.trans ((kept_below HB1.out).sub fun b hb => by unfold Lt at hb ⊢; omega))).at_ (k := j) (u := sv m') (by rw [List.getElem?_map, hm']; rfl)
              subst hPA
              have hij : (0 : Int) ≤ (j : Int) ∧ (j : Int) < (zp : Int) := ⟨by omega, by omega⟩
              have hTK : f.pub.take (j + 1) = f.pub.take j ++ [m'] := by rw [List.take_add_one, hm']; rfl
              have hon := others_snoc l cu (f.pub.take j) m'
              rw [← hTK] at hon
              have HON := Lib.hid hon
              have HP0 := Lib.hid p0
              have HA2 := Lib.hid a2
              clear hm' hTK hon p0
              go_wp2_with fail
              clear a0 a1 a2
              go_loopw [6, 8] (fun v i wj => ∃ h : Nat, h ≤ n ∧ i = .int .i64 h ∧ Below wr.heap.size wr wj ∧ OthAt w.heap.size g w1 wj v (othersOf l cu (f.pub.take j)) ∧ fstI (l.take h) m' = none) (fun _ i _ => n - (intOf i).toNat)
              case atStart => exact ⟨0, by omega, rfl, Below.refl _ _, HOTH.out, by simp [fstI]⟩
              case round =>
                clear HOTH
                obtain ⟨h, hhn, rfl, hBr, hoth, hfst⟩ := hrel
                have hszr := hBr.size
                have a2 := (hBr.cell (block_lt_of_cell HA2.out)).trans HA2.out
                have p0 := (hBr.cell (block_lt_of_cell HP0.out)).trans HP0.out
                have hB1r := HB1.out.trans (hBr.mono hszj)
                have HB1R := Lib.hid hB1r
                have HBr := Lib.hid hBr
                have HFST := Lib.hid hfst
                by_cases hlth : h < n
                · obtain ⟨f', hf'⟩ : ∃ f', l[h]? = some f' := ⟨_, List.getElem?_eq_getElem (by rw [← HN.out]; exact hlth)⟩
                  obtain ⟨u, hu⟩ : ∃ u, fvs[h]? = some u := ⟨_, List.getElem?_eq_getElem (by rw [HFL.out, ← HN.out]; exact hlth)⟩
                  obtain ⟨ad', e', _, b0, _⟩ := fv_at (HFR.out.keep (HKW1.out.trans ((kept_below hB1r).sub fun b hb => by unfold Lt at hb ⊢; omega))) hu
                  have e'' := e'
                  obtain rfl := Option.some.inj e''
                  have hmd := (HFV.out h u f' hu hf').1
                  rw [hmd] at b0
                  have hih : (0 : Int) ≤ (h : Int) ∧ (h : Int) < (n : Int) := ⟨by omega, by omega⟩
                  have hFT := fst_take hf' m'
                  rw [hfst] at hFT
                  simp only [Option.none_or] at hFT
                  have HFT := Lib.hid hFT
                  obtain ⟨vs, hown, hvs⟩ := hoth
                  obtain ⟨VA, vc, rfl, _⟩ := own_slice hown
                  obtain ⟨z, hz⟩ : ∃ z, z = (othersOf l cu (f.pub.take j)).length := ⟨_, rfl⟩
                  have hzj : z ≤ j := by
                    rw [hz]
                    refine Nat.le_trans (others_len _ _ _) ?_
                    rw [List.length_take]
                    omega
                  rw [← hz] at hown ⊢
                  have HOWN := Lib.hid hown
                  have HVS := Lib.hid hvs
                  have HZ := Lib.hid hz
                  have HF' := Lib.hid hf'
                  clear hfst hFT hown hvs hz hf' hu e' hmd hB1r hBr
                  go_wp2_with fail
                  refine wp_region_held' (AtCells [(ad.add (h * 3), sv f'.md), (⟨(ad.add (k * 3)).block, (ad.add (k * 3)).off + 2, none⟩, .slice (some pd) zp pc), (pd.add j, sv m')]) [] [0, 1, 2, 3, 4, 5, 6, 7, 8, 9, 10, 11, 12, 13] [] [] (by kernel_rfl) (by kernel_rfl) ?sa ?ha
                  case sa => exact ⟨b0, a2, p0, trivial⟩
                  case ha =>
                  clear b0 a2 p0
                  simp only [opsAt, List.filterMap_cons, List.filterMap_nil, List.getElem?_toArray, List.getElem?_cons_succ, List.getElem?_cons_zero]
                  refine wpFloat_nil ?_
                  refine wpLoad_step ?va0 rfl (fun w' hS => ?ya0) ?ka0
                  case ya0 =>
                    obtain ⟨g0, g1, g2, _⟩ := hS
                    go_simp
                    try rfl
                  case ka0 =>
                  go_simp
                  refine wpLoad_step ?va1 rfl (fun w' hS => ?ya1) ?ka1
                  case ya1 =>
                    obtain ⟨g0, g1, g2, _⟩ := hS
                    go_simp
                    try rfl
                  case ka1 =>
                  go_simp
                  refine wpLoad_step ?va2 rfl (fun w' hS => ?ya2) ?ka2
                  case ya2 =>
                    obtain ⟨g0, g1, g2, _⟩ := hS
                    go_simp
                    try rfl
                  case ka2 =>
                  go_simp
                  refine wpLoad_step ?va3 rfl (fun w' hS => ?ya3) ?ka3
                  case ya3 =>
                    obtain ⟨g0, g1, g2, _⟩ := hS
                    go_simp
                    try rfl
                  case ka3 =>
                  go_simp
                  refine wpLoad_step ?va4 rfl (fun w' hS => ?ya4) ?ka4
                  case ya4 =>
                    obtain ⟨g0, g1, g2, _⟩ := hS
                    go_simp
                    try rfl
                  case ka4 =>
                  go_simp
                  refine wpLoad_step ?va5 rfl (fun w' hS => ?ya5) ?ka5
                  case ya5 =>
                    obtain ⟨g0, g1, g2, _⟩ := hS
                    go_simp
                    try rfl
                  case ka5 =>
                  go_simp
                  refine wpLoad_step ?va6 rfl (fun w' hS => ?ya6) ?ka6
                  case ya6 =>
                    obtain ⟨g0, g1, g2, _⟩ := hS
                    go_simp
                    try rfl
                  case ka6 =>
                  go_simp
                  refine wpLoad_step ?va7 rfl (fun w' hS => ?ya7) ?ka7
                  case ya7 =>
                    obtain ⟨g0, g1, g2, _⟩ := hS
                    go_simp
                    try rfl
                  case ka7 =>
                  go_simp
                  refine wpLoad_step ?va8 rfl (fun w' hS => ?ya8) ?ka8
                  case ya8 =>
                    obtain ⟨g0, g1, g2, _⟩ := hS
                    go_simp
                    try rfl
                  case ka8 =>
                  go_simp
                  refine wpLoad_step ?va9 rfl (fun w' hS => ?ya9) ?ka9
                  case ya9 =>
                    obtain ⟨g0, g1, g2, _⟩ := hS
                    go_simp
                    try rfl
                  case ka9 =>
                  go_simp
                  refine wpLoad_step ?va10 rfl (fun w' hS => ?ya10) ?ka10
                  case ya10 =>
                    obtain ⟨g0, g1, g2, _⟩ := hS
                    go_simp
                    try rfl
                  case ka10 =>
                  go_simp
                  refine wpLoad_step ?va11 rfl (fun w' hS => ?ya11) ?ka11
                  case ya11 =>
                    obtain ⟨g0, g1, g2, _⟩ := hS
                    go_simp
                    try rfl
                  case ka11 =>
                  go_simp
                  refine wpLoad_step ?va12 rfl (fun w' hS => ?ya12) ?ka12
                  case ya12 =>
                    obtain ⟨g0, g1, g2, _⟩ := hS
                    go_simp
                    try rfl
                  case ka12 =>
                  go_simp
                  refine wpLoad_step (.bool (decide (f'.md = m'))) rfl (fun w' hS => ?ya13) ?ka13
                  case ya13 =>
                    go_simp
                    simp only [bs_toList]
                    by_cases h1 : f'.md = m' <;> simp [h1]
                  case ka13 =>
                  by_cases he : f'.md = m'
                  · have hq : decide (f'.md = m') = true := decide_eq_true he
                    have hft := HFT.out
                    rw [if_pos he] at hft
                    have hfull : fstI l m' = some h := by
                      have : l = l.take (h + 1) ++ l.drop (h + 1) := (List.take_append_drop _ _).symm
                      unfold fstI at hft ⊢
                      rw [this, List.findIdx?_append, hft]
                      rfl
                    have hon := HON.out
                    rw [hfull] at hon
                    simp only at hon
                    obtain ⟨x2, hx2⟩ : ∃ x2, cu[h]? = some x2 := ⟨_, List.getElem?_eq_getElem (by rw [HIK.out.len, ← HN.out]; exact hlth)⟩
                    obtain ⟨ov2, o0, _, hbd2⟩ := HO1.out.at_ hx2
                    have hbd3 := hbd2
                    obtain ⟨XA, xc, rfl, _, _⟩ := hbd2
                    rw [getL_of hx2] at hon
                    have o1 := (HB1R.out.cell (p := ⟨g, h, none⟩) (show g < w1.heap.size by omega)).trans o0
                    obtain ⟨zx, hzx⟩ : ∃ zx, zx = x2.length := ⟨_, rfl⟩
                    rw [← hzx] at o1 hbd3
                    have HON2 := Lib.hid hon
                    have HBD := Lib.hid hbd3
                    rw [hq]
                    clear hq he hft hfull hon hx2 o0 hbd3 hzx
                    refine wpLoad_nil ?_
                    refine wpKeep_nil ?_
                    go_wp2
                    refine NoPanic.normal ?_
                    go_wp2_with (at_builtin; refine wpList_append_lies _ rfl _ _ 23 rfl w1.heap.size 33 i0 _ 1 24 Try.underlying23 hi hz0 hz1 hz2 rfl (by omega) _ z vs rfl (ownDrew HOWN.out _) ⟨wr.heap.size, 0, none⟩ 1 1 [.slice XA zx xc] rfl rfl ?d1 ?d2 (by omega) ?d3 ?d4 ?d5 _ rfl ?_)
                    case d1 => exact World.news_of_block (cs := #[.slice XA zx xc]) (alloc1 wr _)
                    case d2 =>
                      intro u hu
                      rw [List.mem_singleton.1 hu]
                      rfl
                    case d3 => unfold maxLen; omega
                    case d4 => omega
                    case d5 => simp; omega
                    intro vg vcap w2 hown2 hgr hat _
                    have hltv := HOWN.out.lt
                    have HB2 : Hid (Below w1.heap.size w1 w2) := Lib.hid ((HB1R.out.drew.alloc (Nat.le_trans HB1R.out.size (Nat.le_refl _)) (.cells #[.slice XA zx xc] 33)).grown hgr (Nat.le_trans HB1R.out.size (by rw [World.size_alloc]; exact Nat.le_succ _)) (fun r hr => (hltv r hr).1))
                    have HOT : Hid (OthAt w.heap.size g w1 w2 (.slice (some ⟨vg, 0, none⟩) (z + 1) vcap) (othersOf l cu (f.pub.take (j + 1)))) := Lib.hid ⟨vs ++ [.slice XA zx xc], by
                      rw [HON2.out, List.length_append, ← HZ.out]
                      exact hown2, fun i u x hu hx => by
                      rw [HON2.out] at hx
                      have hvl : vs.length = z := by rw [HOWN.out.1, Nat.mul_one]
                      by_cases hiz : i < z
                      · rw [List.getElem?_append_left (by rw [hvl]; exact hiz)] at hu
                        rw [List.getElem?_append_left (by rw [← HZ.out]; exact hiz)] at hx
                        exact HVS.out i u x hu hx
                      · rw [List.getElem?_append_right (by rw [hvl]; omega), hvl] at hu
                        rw [List.getElem?_append_right (by rw [← HZ.out]; omega), ← HZ.out] at hx
                        obtain ⟨p1, e1⟩ := List.getElem?_eq_some_iff.1 hu
                        obtain ⟨p2, e2⟩ := List.getElem?_eq_some_iff.1 hx
                        simp at p1 p2
                        simp [p1] at e1 e2
                        subst e1
                        subst e2
                        exact HBD.out⟩
                    clear hown2 hgr hat hltv o1 HOWN
                    go_wp2
                    go_roundw
                    case rel => exact ⟨j + 1, by omega, by go_num, HB2.out, HOT.out⟩
                    case measure => simp [intOf]; omega
                  · have hq : decide (f'.md = m') = false := decide_eq_false he
                    have hft := HFT.out
                    rw [if_neg he] at hft
                    have HFT2 := Lib.hid hft
                    have HOT : Hid (OthAt w.heap.size g w1 wr.drew (.slice VA z vc) (othersOf l cu (f.pub.take j))) := Lib.hid ⟨vs, by rw [← HZ.out]; exact HOWN.out, HVS.out⟩
                    rw [hq]
                    clear hq he hft
                    refine wpLoad_nil ?_
                    refine wpKeep_nil ?_
                    go_wp2
                    refine NoPanic.normal ?_
                    go_wp2
                    go_roundw
                    case rel => exact ⟨h + 1, by omega, by go_num, HBr.out.drew, HOT.out, HFT2.out⟩
                    case measure => simp [intOf]; omega
                · have hhe : n = h := by omega
                  subst hhe
                  have hfn := HFST.out
                  rw [List.take_of_length_le (by rw [← HN.out]; exact Nat.le_refl _)] at hfn
                  have hon := HON.out
                  rw [hfn] at hon
                  simp only [List.append_nil] at hon
                  rw [← hon] at hoth
                  have HOT := Lib.hid hoth
                  clear hfn hon hfst hoth a2 p0 hB1r hBr
                  go_wp2_with fail
                  go_roundw
                  case rel => exact ⟨j + 1, by omega, by go_num, HB1R.out, HOT.out⟩
                  case measure => simp [intOf]; omega
            · have hje : zp = j := by omega
              subst hje
              have hoth := HOTH.out
              rw [List.take_of_length_le (by rw [← HZP.out]; exact Nat.le_refl _)] at hoth
              have hbv := hoth.bdss HB1.out
              obtain ⟨vs, hown, _⟩ := hoth
              obtain ⟨VA, vc, rfl, _⟩ := own_slice hown
              obtain ⟨z, hz⟩ : ∃ z, z = (othersOf l cu f.pub).length := ⟨_, rfl⟩
              have HBV := Lib.hid hbv
              rw [← hz]
              have hkO : Kept (Lt w.heap.size) w wr := HKW1.out.trans ((kept_below HB1.out).sub fun b hb => by unfold Lt at hb ⊢; omega)
              have hfm := List.mem_of_getElem? HF.out
              have HST := Lib.hid (rstep_any f.md f.own (othersOf l cu f.pub) OA oc (.slice VA (othersOf l cu f.pub).length vc) wr.drew (HFIT.out.md f hfm) (HFIT.out.own f hfm).2 (HFIT.out.own f hfm).1 (Nat.le_trans (others_len _ _ _) (by rw [← HZP.out]; exact hzpl)) (fun x hx => by
                obtain ⟨mm, _, he⟩ := List.mem_filterMap.1 hx
                obtain ⟨jj, _, rfl⟩ := Option.map_eq_some_iff.1 he
                exact HFIT.out.len HIK.out jj) (fun ks hn hk => Nat.le_trans (nodup_le2 hn fun x hx => HIK.out.univ_step HF.out (hk x hx)) HFIT.out.all) ((HOR.out.keep hkO).more fun b hb => by unfold Lt at hb ⊢; show b < wr.heap.size; omega) (HBV.out.keep fun p _ => rfl))
              rw [← HZO.out, ← hz] at HST
              clear hown hbv hkO HBV hz HOTH
              go_wp2_with fail
              clear a2
              refine wp_region_held' (AtCells [(ad.add (k * 3), sv f.md), (⟨(ad.add (k * 3)).block, (ad.add (k * 3)).off + 1, none⟩, .slice OA zo oc)]) [] [0, 1, 2, 3, 4, 5, 6, 7, 8, 9, 10] [11] [12] (by kernel_rfl) (by kernel_rfl) ?sb ?hb
              case sb => exact ⟨a0, a1, trivial⟩
              case hb =>
              simp only [opsAt, List.filterMap_cons, List.filterMap_nil, List.getElem?_toArray, List.getElem?_cons_succ, List.getElem?_cons_zero]
              refine wpFloat_nil ?_
              refine wpLoad_step ?vb0 rfl (fun w' hS => ?yb0) ?kb0
              case yb0 =>
                obtain ⟨g0, g1, _⟩ := hS
                go_simp
                try rfl
              case kb0 =>
              go_simp
              refine wpLoad_step ?vb1 rfl (fun w' hS => ?yb1) ?kb1
              case yb1 =>
                obtain ⟨g0, g1, _⟩ := hS
                go_simp
                try rfl
              case kb1 =>
              go_simp
              refine wpLoad_step ?vb2 rfl (fun w' hS => ?yb2) ?kb2
              case yb2 =>
                obtain ⟨g0, g1, _⟩ := hS
                go_simp
                try rfl
              case kb2 =>
              go_simp
              refine wpLoad_step ?vb3 rfl (fun w' hS => ?yb3) ?kb3
              case yb3 =>
                obtain ⟨g0, g1, _⟩ := hS
                go_simp
                try rfl
              case kb3 =>
              go_simp
              refine wpLoad_step ?vb4 rfl (fun w' hS => ?yb4) ?kb4
              case yb4 =>
                obtain ⟨g0, g1, _⟩ := hS
                go_simp
                try rfl
              case kb4 =>
              go_simp
              refine wpLoad_step ?vb5 rfl (fun w' hS => ?yb5) ?kb5
              case yb5 =>
                obtain ⟨g0, g1, _⟩ := hS
                go_simp
                try rfl
              case kb5 =>
              go_simp
              refine wpLoad_step ?vb6 rfl (fun w' hS => ?yb6) ?kb6
              case yb6 =>
                obtain ⟨g0, g1, _⟩ := hS
                go_simp
                try rfl
              case kb6 =>
              go_simp
              refine wpLoad_step ?vb7 rfl (fun w' hS => ?yb7) ?kb7
              case yb7 =>
                obtain ⟨g0, g1, _⟩ := hS
                go_simp
                try rfl
              case kb7 =>
              go_simp
              refine wpLoad_step ?vb8 rfl (fun w' hS => ?yb8) ?kb8
              case yb8 =>
                obtain ⟨g0, g1, _⟩ := hS
                go_simp
                try rfl
              case kb8 =>
              go_simp
              refine wpLoad_step ?vb9 rfl (fun w' hS => ?yb9) ?kb9
              case yb9 =>
                obtain ⟨g0, g1, _⟩ := hS
                go_simp
                try rfl
              case kb9 =>
              go_simp
              refine wpLoad_step ?vb10 rfl (fun w' hS => ?yb10) ?kb10
              case yb10 =>
                obtain ⟨g0, g1, _⟩ := hS
                go_simp
                try rfl
              case kb10 =>
              go_simp
              refine wpLoad_nil ?_
              refine wpKeep_step rfl ?_
              go_simp
              refine HST.out.mono ?_
              rintro e w2 ⟨RA, rc, ss, rfl, hrc, hasc, hmem, hrow2, hb2⟩
              have hb2 : Below wr.heap.size wr w2 := (Below.refl _ wr).drew.trans hb2
              refine ⟨⟨(hb2.cell (block_lt_of_cell a0)).trans a0, (hb2.cell (block_lt_of_cell a1)).trans a1, trivial⟩, ?_⟩
              have hrow2 : Row w2 (Fr wr.heap.size w2.heap.size) RA (flt bdC ss) := hrow2
              have hss := step_is hasc hmem
              have hs2 := hb2.size
              have hb12 : Below w1.heap.size w1 w2 := HB1.out.trans (hb2.mono hszj)
              obtain ⟨x0, hx0⟩ : ∃ x0, cu[k]? = some x0 := ⟨_, List.getElem?_eq_getElem (by rw [HIK.out.len, ← HN.out]; exact hlt)⟩
              have hO2 := HO1.out.below hb12
              obtain ⟨ov, o0, _, XA, xc, rfl, _, hxr⟩ := hO2.at_ hx0
              have hsl : ss.length ≤ 100000000 := by
                refine Nat.le_trans (nodup_le2 hasc.nodup fun x hx => HIK.out.univ_step HF.out ((hmem x).1 hx)) HFIT.out.all
              have HEQ := Lib.hid (sameB_any ss x0 RA XA rc xc w2 hsl (hrow2.more fun b hb => hb.2) (hxr.more fun b hb => hb.1.2))
              obtain ⟨y, hy⟩ : ∃ y, y = ss.length := ⟨_, rfl⟩
              obtain ⟨zx, hzx⟩ : ∃ zx, zx = x0.length := ⟨_, rfl⟩
              rw [← hy, ← hzx] at HEQ
              rw [← hzx] at o0
              rw [← hy] at hrc ⊢
              have HY := Lib.hid hy
              have HX0 := Lib.hid hx0
              have HSS := Lib.hid hss
              have HROW := Lib.hid hrow2
              have HO2 := Lib.hid hO2
              have HB12 := Lib.hid hb12
              have HASC := Lib.hid hasc
              clear hasc hmem hrow2 hb2 hss hx0 hxr hy hzx hO2 hb12 HST a0 a1
              refine wpKeep_nil ?_
              go_wp2
              refine NoPanic.normal ?_
              go_wp2_with fail
              refine HEQ.out.mono ?_
              rintro e w3 ⟨r, rfl, hr, hb3⟩
              have hs3 := hb3.size
              have hb13 : Below w1.heap.size w1 w3 := HB12.out.trans (hb3.mono HB12.out.size)
              have hst : sweepTo l cur (k + 1) = cu.set k ss := by
                rw [sweepTo_succ, ← HCU.out, HSS.out]
                unfold stp
                rw [HF.out]
              have HST := Lib.hid hst
              have HO3 := Lib.hid (HO1.out.below hb13)
              have HK3 : Hid (Kp (fun y => y = g) wc w3) := Lib.hid (HK1.out.below hb13)
              have hlc := (HI.out.sweepTo k).2
              cases r with
              | true =>
                have hxe := hr.1 rfl
                have HSAME : Hid (sweepTo l cur (k + 1) = cu) := Lib.hid (by
                  rw [hst, hxe]
                  apply List.ext_getElem?
                  intro i
                  by_cases e : k = i
                  · subst e
                    rw [List.getElem?_set_self (by rw [HIK.out.len, ← HN.out]; exact hlt), HX0.out]
                  · rw [List.getElem?_set_ne e])
                clear hr hst hlc hxe hb3 hb13
                go_wp2
                go_roundw
                case rel => exact ⟨k + 1, bq, by omega, by go_num, by trivial, by rw [HSAME.out]; exact HO3.out, HK3.out, by rw [HSAME.out, HCU.out]; exact HQ1.out, by rw [HSAME.out, HCU.out]; exact HQ2.out⟩
                case measure => simp [intOf]; omega
              | false =>
                have hne : ss ≠ x0 := fun e => by have := hr.2 e; cases this
                have hbd : BdsW w.heap.size g w3 (.slice RA y rc) ss := ⟨RA, rc, by rw [HY.out], by rw [← HY.out]; exact hrc, (HROW.out.keep ((kept_below hb3).sub fun b hb => hb.2)).more fun b hb => ⟨⟨by have := hb.1; omega, by have := hb.2; omega⟩, by have := hb.1; omega⟩⟩
                obtain ⟨v0, o3, f3, _⟩ := HO3.out.at_ HX0.out
                have hset := HO3.out.set (i := k) hbd
                obtain ⟨w4, hw4⟩ : ∃ w4, w4 = w3.setCell ⟨g, k, none⟩ (.slice RA y rc) := ⟨_, rfl⟩
                rw [← hw4] at hset
                have HO4 := Lib.hid hset.1
                have HK4 : Hid (Kp (fun y => y = g) wc w4) := Lib.hid (HK3.out.trans hset.2 fun _ _ e => e)
                have HTT : Hid (tot cur < tot (sweepTo l cur (k + 1))) := Lib.hid (by
                  have hst2 := HIK.out.stp k
                  have e1 : stp l cu k = sweepTo l cur (k + 1) := by rw [sweepTo_succ, ← HCU.out]
                  rw [e1] at hst2
                  have h1 := tot_le (by rw [HIK.out.len, hst2.1.len]) HIK.out.asc hst2.2
                  have h2 : tot cur ≤ tot cu := by
                    rw [HCU.out]
                    exact tot_le (by rw [HI.out.len, (HI.out.sweepTo k).1.len]) HI.out.asc hlc
                  rcases Nat.lt_or_ge (tot cu) (tot (sweepTo l cur (k + 1))) with h3 | h3
                  · omega
                  · exfalso
                    have h4 := tot_eq (by rw [HIK.out.len, hst2.1.len]) HIK.out.asc hst2.1.asc hst2.2 h3
                    rw [hst] at h4
                    have h5 : cu[k]? = (cu.set k ss)[k]? := congrArg (fun o : List (List Key) => o[k]?) h4
                    rw [HX0.out, List.getElem?_set_self (by rw [HIK.out.len, ← HN.out]; exact hlt)] at h5
                    exact hne (Option.some.inj h5).symm)
                have HW4 := Lib.hid hw4
                clear hr hne hbd hset hw4 hst hlc hb3 hb13
                go_wp2_with fail
                go_roundw
                case rel => exact ⟨k + 1, true, by omega, by go_num, by trivial, by rw [HST.out, ← HW4.out]; exact HO4.out, by rw [← HW4.out]; exact HK4.out, (fun h => by cases h), fun _ => HTT.out⟩
                case measure => simp [intOf]; omega
        · have hke : n = k := by omega
          subst hke
          have hsw : sweepTo l cur n = iterS l (t + 1) := by
            rw [iterS, sweep, ← HN.out, ← HCUR.out]
          have ho := HO.out
          have hq1 := HQ1.out
          have hq2 := HQ2.out
          rw [hsw] at ho hq1 hq2
          have htn := ho.tot
          rw [iterS_len, ← HN.out] at htn
          have hbd := (Inv.iter l (t + 1)).bound
          rw [← HN.out] at hbd
          have HONEW := Lib.hid ho
          have HQ1N := Lib.hid hq1
          have HQ2N := Lib.hid hq2
          have HTN := Lib.hid htn
          have HBD := Lib.hid hbd
          clear ho hq1 hq2 htn hbd HQ1 HQ2 HO hsw
          go_wp2_with fail
          go_roundw
          case rel =>
            refine ⟨t + 1, bq, by trivial, HONEW.out, HK.out, fun h => ?_⟩
            have e1 := HQ1N.out h
            rw [e1]
            have e2 : sweep l cur = iterS l (t + 1) := by rw [HCUR.out]; rfl
            rw [e2, e1]
          case measure =>
            rw [← HWT.out, HTOT.out, HTN.out]
            cases bq with
            | false =>
              rw [HQ1N.out rfl]
              simp [flagN]
            | true =>
              have h1 := HQ2N.out rfl
              have h2 := HBD.out
              simp [flagN]
              omega
end Go.Proofs.Ytcliegpofhjpcaa
