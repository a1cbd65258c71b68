/-
  The walk of recompilelaw09.TypesMatches.
  Conditions: the numbers are ints.
-/
import Derived.Test.YtmcoejknelhhcaaDoorVals
import Derived.Test.YtmcoejknelhhcaaDoorAwk
import Derived.Test.YtmcoejknelhhcaaDoorRefSame
namespace Go.Proofs.YtmcoejknelhhcaaDoor
open Go.RowKit

set_option maxHeartbeats 16000000 in
set_option maxRecDepth 100000 in
theorem law_light (xs : List Int) (TA : Option Addr) (tc : Nat) (w : World) (hA : Row w (Lt w.heap.size) TA (xs.map (Value.int .i64))) (hn : xs.length ≤ 400) (hf : ∀ x ∈ xs, -9223372036854775808 ≤ x ∧ x ≤ 9223372036854775807) :
    Calls Tryd.prog 3 #[.slice TA xs.length tc] w fun e w' => e = .returned (.bool true) ∧ Below w.heap.size w w' := by
  have hli := light_any xs.length TA tc w
  rw [show decide (xs.length ≤ 400) = true by simpa using hn] at hli
  have hro := roll_any xs TA tc w hA hn hf
  have HLI := Lib.hid hli
  have HRO := Lib.hid hro
  clear hli hro hA hf
  generalize xs.length = n at *
  go_enter Tryd.func3, Tryd.ntmps3
  go_wp2_with fail
  refine HLI.out.mono ?_
  rintro e w0 ⟨rfl, rfl⟩
  go_wp2_with fail
  refine HRO.out.mono ?_
  rintro e w1 ⟨rfl, hD1, hb1⟩
  obtain ⟨dd, hdd⟩ : ∃ dd, dd = w.heap.size := ⟨_, rfl⟩
  rw [← hdd] at hD1 ⊢
  have HDD := Lib.hid hdd
  clear hdd
  have hdl1 := hD1.lt
  go_wp2_with fail
  refine (dtype_any 3 dd xs w1 (by omega) hD1).mono ?_
  intro e w2 hres
  obtain ⟨p, v, rfl, hdp, hpv, hD2, hK2⟩ := TyV.made (e := dd) hdl1 hdl1 hres
  obtain ⟨pn, ps, rfl, hp2⟩ := hpv
  have hdl2 := hD2.lt
  have hb2 : Below w.heap.size w w2 := hb1.trans ⟨hK2.os, hK2.tape, hK2.output, hK2.size, fun y hy => hK2.block y (Nat.lt_of_lt_of_le hy hb1.size) (by have := HDD.out; omega)⟩
  clear hres hD1 hK2
  go_wp2_with fail
  obtain ⟨pb, hpb⟩ : ∃ pb, pb = w2.heap.size := ⟨_, rfl⟩
  have hB3 := alloc1 w2 (.cells #[sv pn, .slice ps.1 ps.2.1 ps.2.2] 29)
  have hK3 : Kp (fun y => y = dd) w2 (w2.alloc (.cells #[sv pn, .slice ps.1 ps.2.1 ps.2.2] 29)) := kp_alloc _
  have hD3 := (hD2.below ((Below.refl _ _).alloc (Nat.le_refl _) (.cells #[sv pn, .slice ps.1 ps.2.1 ps.2.2] 29)))
  have hb3 := hb2.trans (((Below.refl w2.heap.size w2).alloc (Nat.le_refl _) (.cells #[sv pn, .slice ps.1 ps.2.1 ps.2.2] 29)).mono hb2.size)
  have hp3 := (hp2.keep (kept_off hK3)).more (off_more hK3)
  have hsz3 : (w2.alloc (.cells #[sv pn, .slice ps.1 ps.2.1 ps.2.2] 29)).heap.size = w2.heap.size + 1 := by simp
  rw [← hpb] at hB3 ⊢
  generalize hw3 : w2.alloc (.cells #[sv pn, .slice ps.1 ps.2.1 ps.2.2] 29) = w3 at *
  have hpd : pb ≠ dd := by omega
  have HPB := Lib.hid hpb
  have HSZ3 := Lib.hid hsz3
  clear hpb hsz3
  clear hw3 hK3 hD2 hp2 hb2 hb1
  have hS3 : ∀ w', Kp (fun y => y = dd) w3 w' → w'.cell? ⟨pb, 0, none⟩ = some (sv pn) ∧ w'.cell? ⟨pb, 1, none⟩ = some (.slice ps.1 ps.2.1 ps.2.2) := fun w' hk => by
    have := hk.heap hB3 hpd
    exact ⟨(Lib.cell_of_heap this _).trans rfl, (Lib.cell_of_heap this _).trans rfl⟩
  have hK3d : Kp (fun y => y = dd) w3 w3.drew := (Kp.refl _ w3).drew
  have HS3 := Lib.hid hS3
  have HB3 := Lib.hid hB3
  have HD3 := Lib.hid hD3
  have HB3w := Lib.hid hb3
  have HDP := Lib.hid hdp
  have HP3 := Lib.hid hp3
  have hdl3 := hD3.lt
  clear hS3 hB3 hD3 hb3 hdp hp3
  go_wp2_with fail
  refine wp_region_free (fun w' => w'.cell? ⟨pb, 0, none⟩ = some (sv pn) ∧ w'.cell? ⟨pb, 1, none⟩ = some (.slice ps.1 ps.2.1 ps.2.2)) [0, 2, 4] [1, 3, 5, 6, 7, 8] [9] (by kernel_rfl) (by kernel_rfl) (HS3.out _ hK3d) ?h5
  case h5 =>
  simp only [opsAt, List.filterMap_cons, List.filterMap_nil, List.getElem?_toArray, List.getElem?_cons_succ, List.getElem?_cons_zero]
  refine wpLoad_step ?va0 rfl (fun w' hS => ?ya0) ?ka0
  case ya0 =>
    obtain ⟨h1, h2⟩ := hS
    go_simp
    try rfl
  case ka0 =>
  go_simp
  refine wpLoad_step ?va1 rfl (fun w' hS => ?ya1) ?ka1
  case ya1 =>
    obtain ⟨h1, h2⟩ := hS
    go_simp
    try rfl
  case ka1 =>
  go_simp
  refine wpLoad_step ?va2 rfl (fun w' hS => ?ya2) ?ka2
  case ya2 =>
    obtain ⟨h1, h2⟩ := hS
    go_simp
    try rfl
  case ka2 =>
  go_simp
  refine wpLoad_nil ?_
  intro ops a0 W hops ha0 hend hstep
  have G411 : ∀ (L : Array Bool) (a : Act) (w' : World) (v20 v22 v24 v25 v26 : Value) (b5 : Nat) (t2 t1 : Ty), L = #[true, true, true, true, true, true, true, true, true, false] → a = ((((((a0.put (some 5) (Value.pointer (some ⟨b5, 0, none⟩))).put (some 20) v20).put (some 22) v22).put (some 24) v24).put (some 25) v25).put (some 26) v26) → DiceAt w' dd xs → Kp (fun y => y = dd) w3 w' → (DTy 2 t2 ∧ TyV dd b5 t2 v22 w') → (DTy 1 t1 ∧ TyV dd b5 t1 v24 w') → (TysV dd b5 [t2, t1] v25 w') → (TyV dd b5 (putN [[84], [85]] [t2, t1] p) v26 w') → (StrV dd b5 v20 w') → (CellV w3.heap.size dd b5 w') → W 0 L a w' := by
    intro L a w' v20 v22 v24 v25 v26 b5 t2 t1 hL ha hD hk f22 f24 f25 f26 f20 f5
    subst hL
    clear hstep
    obtain ⟨xn, xs', rfl, hx⟩ := f26
    obtain ⟨hb5d, hb5B, hh5⟩ := f5
    refine hend _ _ _ (by rw [hops]; kernel_rfl) ?_
    rw [hops, ha, ha0]
    simp only [List.getElem?_toArray, List.getElem?_cons_succ, List.getElem?_cons_zero]
    have hpw : TyIs w' (Off dd b5 w') p (sv pn) (.slice ps.1 ps.2.1 ps.2.2) := (HP3.out.keep (kept_off hk)).more fun y hy => ⟨Nat.lt_of_lt_of_le hy.1 hk.size, hy.2.1, by have := hy.1; omega⟩
    have c0 : w'.cell? ⟨b5, 0, none⟩ = some (.string ⟨#[]⟩) := (Lib.cell_of_heap hh5 _).trans rfl
    have c1 : w'.cell? ⟨b5, 1, none⟩ = some (.slice none 0 0) := (Lib.cell_of_heap hh5 _).trans rfl
    have g0 : w'.frozen? ⟨b5, 0, none⟩ = false := Lib.frozen_of_heap hh5 0
    have g1 : w'.frozen? ⟨b5, 1, none⟩ = false := Lib.frozen_of_heap hh5 1
    have hks : Kp (fun y => y = b5) w' ((w'.setCell ⟨b5, 0, none⟩ (sv xn)).setCell ⟨b5, 1, none⟩ (.slice xs'.1 xs'.2.1 xs'.2.2)) := ((Kp.refl (fun y => y = b5) w').setCell (fun _ => rfl) _).setCell (fun _ => rfl) _
    have hbw : Below w.heap.size w ((w'.setCell ⟨b5, 0, none⟩ (sv xn)).setCell ⟨b5, 1, none⟩ (.slice xs'.1 xs'.2.1 xs'.2.2)) := by
      have hdd := HDD.out
      have h3 := HB3w.out.size
      refine HB3w.out.trans ⟨hks.os.trans hk.os, hks.tape.trans hk.tape, hks.output.trans hk.output, Nat.le_trans hk.size hks.size, fun y hy => ?_⟩
      rw [hks.block y (by have := hk.size; omega) (by omega), hk.block y (by omega) (by omega)]
    have hX4 := (hx.keep (hks.kept fun b hb => ⟨hb.1, hb.2.2⟩)).more fun y hy => (Nat.lt_of_lt_of_le hy.1 hks.size : Lt _ y)
    have hP4 := (hpw.keep (hks.kept fun b hb => ⟨hb.1, hb.2.2⟩)).more fun y hy => (Nat.lt_of_lt_of_le hy.1 hks.size : Lt _ y)
    have hB5' : ((w'.setCell ⟨b5, 0, none⟩ (sv xn)).setCell ⟨b5, 1, none⟩ (.slice xs'.1 xs'.2.1 xs'.2.2)).heap[b5]? = some (.cells #[sv xn, .slice xs'.1 xs'.2.1 xs'.2.2] 29 (0, 0)) := setCell_heap (setCell_heap hh5)
    have hpb3 := lt_of_heap HB3.out
    have hPB' := hks.heap (hk.heap HB3.out hpd) (by omega)
    have HB5' := Lib.hid hB5'
    have HPB' := Lib.hid hPB'
    have HX4 := Lib.hid hX4
    have HP4 := Lib.hid hP4
    have HBW := Lib.hid hbw
    clear hB5' hPB' hX4 hP4 hbw hx hpw hks hh5 hD hk f20 f22 f24 f25 hops ha ha0 hend HS3 HB3 HD3 HB3w HP3
    go_wp2
    refine NoPanic.normal ?_
    generalize ((w'.setCell ⟨b5, 0, none⟩ (sv xn)).setCell ⟨b5, 1, none⟩ (.slice xs'.1 xs'.2.1 xs'.2.2)) = w4 at *
    clear c0 c1 g0 g1
    have p0 : w4.cell? ⟨pb, 0, none⟩ = some (sv pn) := (Lib.cell_of_heap HPB'.out _).trans rfl
    have p1 : w4.cell? ⟨pb, 1, none⟩ = some (.slice ps.1 ps.2.1 ps.2.2) := (Lib.cell_of_heap HPB'.out _).trans rfl
    have x0 : w4.cell? ⟨b5, 0, none⟩ = some (sv xn) := (Lib.cell_of_heap HB5'.out _).trans rfl
    have x1 : w4.cell? ⟨b5, 1, none⟩ = some (.slice xs'.1 xs'.2.1 xs'.2.2) := (Lib.cell_of_heap HB5'.out _).trans rfl
    obtain ⟨m1, m2, _, m4⟩ := mtch_put (isPut [[84], [85]] [t2, t1]) p ([], []) (good_nil _)
    have hpf := put_found (isPut [[84], [85]] [t2, t1]) m2 p m4
    have hma := matchTop p (putN [[84], [85]] [t2, t1] p) _ _ _ _ w4 HP4.out HX4.out (by have := HDP.out.size; omega)
    simp only [if_pos m1] at hma
    have hle := (mtch_len p (putN [[84], [85]] [t2, t1] p) ([], []) rfl).2
    generalize (mtch p (putN [[84], [85]] [t2, t1] p) ([], [])).2 = f at *
    have HMA := Lib.hid hma
    have HPF := Lib.hid hpf
    have HM2 := Lib.hid m2
    have HLE : Hid (f.1.length ≤ 1000000) := Lib.hid (by have := HDP.out.size; simp only [List.length_nil] at hle; omega)
    clear hma hpf m1 m2 m4 hle
    go_wp2_with fail
    refine HMA.out.mono ?_
    rintro e w5 ⟨FA, FA', fn, fc, fn', fc', fvs, rfl, hfn, hfn', hFR, hFT, hb5⟩
    have hfe : fn' = fn := by rw [hfn, hfn', HM2.out.len]
    subst hfe
    have HFN := Lib.hid hfn'
    clear hfn hfn'
    go_wp2_with fail
    refine (awake_any w5).mono ?_
    rintro e w6 ⟨rfl, hb6⟩
    have hb46 : Below w4.heap.size w4 w6 := hb5.trans (hb6.mono hb5.size)
    have hFR6 := (hFR.keep ((kept_below hb6).sub fun y hy => hy.2)).more fun y hy => (Nat.lt_of_lt_of_le hy.2 hb6.size : Lt w6.heap.size y)
    have hFT6 := (hFT.keep ((kept_below hb6).sub fun y hy => hy.2)).more fun y hy => (Nat.lt_of_lt_of_le hy.2 hb6.size : Lt w6.heap.size y)
    have hfl : fn' ≤ 1000000 := by
      have := HLE.out
      have := HM2.out.len
      have := HFN.out
      omega
    have HFR := Lib.hid hFR6
    have HFT := Lib.hid hFT6
    have HB46 := Lib.hid hb46
    clear hFR hFT hFR6 hFT6 hb5 hb6 hb46
    go_wp2_with fail
    go_loopw [9] (fun i wr => ∃ j : Nat, j ≤ fn' ∧ i = .int .i64 j ∧ Below w6.heap.size w6 wr) (fun i _ => fn' - (intOf i).toNat)
    case atStart => exact ⟨0, Nat.zero_le _, rfl, Below.refl _ _⟩
    case round =>
      obtain ⟨j, hj, rfl, hbr⟩ := hrel
      by_cases hlt : j < fn'
      · have hjl : j < f.1.length := by have := HM2.out.len; have := HFN.out; omega
        have hFRr := (HFR.out.keep (kept_below hbr)).more fun y hy => (Nat.lt_of_lt_of_le hy hbr.size : Lt wr.heap.size y)
        obtain ⟨wo, rfl⟩ : ∃ wo, wo = wr := ⟨_, rfl⟩
        have hjd : decide ((j : Int) < (fn' : Int)) = true := by simp; omega
        have HJL := Lib.hid hjl
        have HFRR := Lib.hid hFRr
        clear hjl
        have HBR := Lib.hid hbr
        clear hFRr hbr
        go_wp2_with fail
        go_loopw [10] (fun i wx => ∃ q : Nat, q ≤ j ∧ i = .int .i64 q ∧ Below wo.heap.size wo wx) (fun i _ => j - (intOf i).toNat)
        case atStart => exact ⟨0, Nat.zero_le _, rfl, Below.refl _ _⟩
        case round =>
          obtain ⟨q, hq, rfl, hbx⟩ := hrel
          by_cases hlt2 : q < j
          · have hjl := HJL.out
            have hql : q < f.1.length := by omega
            have hFRx := (HFRR.out.keep (kept_below hbx)).more fun y hy => (Nat.lt_of_lt_of_le hy hbx.size : Lt wr.heap.size y)
            obtain ⟨ad, rfl, hS1, e1⟩ := hFRx.at_ (k := j) (u := sv f.1[j]) (by simp [hjl])
            obtain ⟨_, hh, hS2, e2⟩ := hFRx.at_ (k := q) (u := sv f.1[q]) (by simp [hql])
            obtain rfl := Option.some.inj hh
            have hne : ¬ f.1[j] = f.1[q] := fun e => by
              have := (List.getElem_inj HM2.out.once).1 e
              omega
            have hbq := bytesNe hne
            have hik : (0 : Int) ≤ (j : Int) ∧ (j : Int) < (fn' : Int) := ⟨by omega, by omega⟩
            have hiq : (0 : Int) ≤ (q : Int) ∧ (q : Int) < (fn' : Int) := ⟨by omega, by omega⟩
            have hqd : decide ((q : Int) < (j : Int)) = true := by simp; omega
            have HBX := Lib.hid hbx
            clear hbx hFRx hne
            generalize hnj : f.1[j] = nj at e1 hbq
            generalize hnq : f.1[q] = nq at e2 hbq
            clear hnj hnq hjl hql hh
            go_wp2_with fail
            refine wp_region_held' (fun w' => w'.cell? (ad.add j) = some (sv nj) ∧ w'.cell? (ad.add q) = some (sv nq)) [] [0, 1, 2, 3, 4, 5, 6, 7, 8] [] [] (by kernel_rfl) (by kernel_rfl) ?sx ?hx
            case sx => exact ⟨e1, e2⟩
            case hx =>
            simp only [opsAt, List.filterMap_cons, List.filterMap_nil, List.getElem?_toArray, List.getElem?_cons_succ, List.getElem?_cons_zero]
            refine wpFloat_nil ?_
            refine wpLoad_step ?vx0 rfl (fun w' hS => ?yx0) ?kx0
            case yx0 =>
              obtain ⟨h1, h2⟩ := hS
              go_simp
              try rfl
            case kx0 =>
            go_simp
            refine wpLoad_step ?vx1 rfl (fun w' hS => ?yx1) ?kx1
            case yx1 =>
              obtain ⟨h1, h2⟩ := hS
              go_simp
              try rfl
            case kx1 =>
            go_simp
            refine wpLoad_step ?vx2 rfl (fun w' hS => ?yx2) ?kx2
            case yx2 =>
              obtain ⟨h1, h2⟩ := hS
              go_simp
              try rfl
            case kx2 =>
            go_simp
            refine wpLoad_step ?vx3 rfl (fun w' hS => ?yx3) ?kx3
            case yx3 =>
              obtain ⟨h1, h2⟩ := hS
              go_simp
              try rfl
            case kx3 =>
            go_simp
            refine wpLoad_step ?vx4 rfl (fun w' hS => ?yx4) ?kx4
            case yx4 =>
              obtain ⟨h1, h2⟩ := hS
              go_simp
              try rfl
            case kx4 =>
            go_simp
            refine wpLoad_step ?vx5 rfl (fun w' hS => ?yx5) ?kx5
            case yx5 =>
              obtain ⟨h1, h2⟩ := hS
              go_simp
              try rfl
            case kx5 =>
            go_simp
            refine wpLoad_step ?vx6 rfl (fun w' hS => ?yx6) ?kx6
            case yx6 =>
              obtain ⟨h1, h2⟩ := hS
              go_simp
              try rfl
            case kx6 =>
            go_simp
            refine wpLoad_step ?vx7 rfl (fun w' hS => ?yx7) ?kx7
            case yx7 =>
              obtain ⟨h1, h2⟩ := hS
              go_simp
              try rfl
            case kx7 =>
            go_simp
            refine wpLoad_step ?vx8 rfl (fun w' hS => ?yx8) ?kx8
            case yx8 =>
              obtain ⟨h1, h2⟩ := hS
              go_simp
              try rfl
            case kx8 =>
            go_simp
            refine wpLoad_nil ?_
            refine wpKeep_nil ?_
            go_wp2
            refine NoPanic.normal ?_
            go_wp2
            go_roundw
            case rel => exact ⟨q + 1, by omega, by go_num, HBX.out.trans (Below.refl _ _).drew⟩
            case measure => simp [intOf]; omega
          · obtain rfl : q = j := by omega
            have HB2 := Lib.hid (HBR.out.trans (hbx.mono HBR.out.size))
            have hqd : decide ((q : Int) < (q : Int)) = false := by simp
            clear hbx
            go_wp2
            go_roundw
            case rel => exact ⟨q + 1, by omega, by go_num, HB2.out⟩
            case measure => simp [intOf]; omega
      · obtain rfl : j = fn' := by omega
        have hjd : decide ((j : Int) < (j : Int)) = false := by simp
        have hb4r := HB46.out.trans (hbr.mono HB46.out.size)
        have hbd : Below w4.heap.size w4 wr.drew := hb4r.drew
        have hss : ∀ w', Below w4.heap.size w4 w' → w'.cell? ⟨pb, 0, none⟩ = some (sv pn) ∧ w'.cell? ⟨pb, 1, none⟩ = some (.slice ps.1 ps.2.1 ps.2.2) ∧ w'.cell? ⟨b5, 0, none⟩ = some (sv xn) ∧ w'.cell? ⟨b5, 1, none⟩ = some (.slice xs'.1 xs'.2.1 xs'.2.2) := fun w' hb => by
          have a := (hb.block _ (lt_of_heap HPB'.out)).trans HPB'.out
          have b := (hb.block _ (lt_of_heap HB5'.out)).trans HB5'.out
          exact ⟨(Lib.cell_of_heap a _).trans rfl, (Lib.cell_of_heap a _).trans rfl, (Lib.cell_of_heap b _).trans rfl, (Lib.cell_of_heap b _).trans rfl⟩
        have hj1 : j = f.1.length := by have := HM2.out.len; have := HFN.out; omega
        have hj2 : j = f.2.length := HFN.out
        have hbrd : Below w6.heap.size w6 wr.drew := hbr.drew
        have put := putN_any f.1 f.2 HLE.out p (sv pn) (.slice ps.1 ps.2.1 ps.2.2) FA FA' fc fc' fvs wr.drew ((HP4.out.keep (kept_below hbd)).more fun y hy => Nat.lt_of_lt_of_le hy hbd.size)
          ((HFR.out.keep (kept_below hbrd)).more fun y hy => (Nat.lt_of_lt_of_le hy hbrd.size : Lt _ y)) ((HFT.out.keep (kept_below hbrd)).more fun y hy => (Nat.lt_of_lt_of_le hy hbrd.size : Lt _ y))
        rw [← hj1, ← hj2] at put
        have PUT := Lib.hid put
        have HSS := Lib.hid hss
        clear put hss hj1 hj2 hbrd hb4r hbr
        go_wp2_with fail
        refine wp_region_held' (fun w' => w'.cell? ⟨pb, 0, none⟩ = some (sv pn) ∧ w'.cell? ⟨pb, 1, none⟩ = some (.slice ps.1 ps.2.1 ps.2.2) ∧ w'.cell? ⟨b5, 0, none⟩ = some (sv xn) ∧ w'.cell? ⟨b5, 1, none⟩ = some (.slice xs'.1 xs'.2.1 xs'.2.2)) [] [0, 1, 2, 4] [3, 5] [6] (by kernel_rfl) (by kernel_rfl) ?se ?he
        case se => exact HSS.out _ hbd
        case he =>
        simp only [opsAt, List.filterMap_cons, List.filterMap_nil, List.getElem?_toArray, List.getElem?_cons_succ, List.getElem?_cons_zero]
        refine wpFloat_nil ?_
        refine wpLoad_step ?ve0 rfl (fun w' hS => ?ye0) ?ke0
        case ye0 =>
          obtain ⟨h1, h2, h3, h4⟩ := hS
          go_simp
          try rfl
        case ke0 =>
        go_simp
        refine wpLoad_step ?ve1 rfl (fun w' hS => ?ye1) ?ke1
        case ye1 =>
          obtain ⟨h1, h2, h3, h4⟩ := hS
          go_simp
          try rfl
        case ke1 =>
        go_simp
        refine wpLoad_step ?ve2 rfl (fun w' hS => ?ye2) ?ke2
        case ye2 =>
          obtain ⟨h1, h2, h3, h4⟩ := hS
          go_simp
          try rfl
        case ke2 =>
        go_simp
        refine wpLoad_step ?ve3 rfl (fun w' hS => ?ye3) ?ke3
        case ye3 =>
          obtain ⟨h1, h2, h3, h4⟩ := hS
          go_simp
          try rfl
        case ke3 =>
        go_simp
        refine wpLoad_nil ?_
        refine wpKeep_step rfl ?_
        go_simp
        refine PUT.out.mono ?_
        rintro e w7 ⟨u7, v7, rfl, hT7, hb7⟩
        obtain ⟨u7, v7, rfl, rfl⟩ := hT7.shape
        have hb47 := hbd.trans (hb7.mono hbd.size)
        refine ⟨HSS.out _ hb47, ?_⟩
        refine wpKeep_step rfl ?_
        go_simp
        have hX7 := (HX4.out.keep (kept_below hb47)).more fun y hy => (Nat.lt_of_lt_of_le hy hb47.size : Lt w7.heap.size y)
        refine (refSame_any _ _ _ _ _ _ w7 (hT7.more fun y hy => (hy.2 : Lt w7.heap.size y)) hX7).mono ?_
        rintro e w8 ⟨r, rfl, hr, hb8⟩
        have hb48 := hb47.trans (hb8.mono hb47.size)
        obtain rfl : r = true := hr.2 HPF.out
        refine ⟨HSS.out _ hb48, ?_⟩
        refine wpKeep_nil ?_
        have HEND := Lib.hid (HBW.out.trans (hb48.mono HBW.out.size))
        clear hb48 hb8 hb47 hb7 hX7 hT7 hbd hr
        go_wp2
        refine NoPanic.normal ?_
        go_wp2
        go_ret
        exact ⟨rfl, HEND.out⟩
  have G311 : ∀ (L : Array Bool) (a : Act) (w' : World) (v20 v22 v24 v25 : Value) (b5 : Nat) (t2 t1 : Ty), L = #[true, true, true, true, true, true, true, false, true, false] → a = (((((a0.put (some 5) (Value.pointer (some ⟨b5, 0, none⟩))).put (some 20) v20).put (some 22) v22).put (some 24) v24).put (some 25) v25) → DiceAt w' dd xs → Kp (fun y => y = dd) w3 w' → (DTy 2 t2 ∧ TyV dd b5 t2 v22 w') → (DTy 1 t1 ∧ TyV dd b5 t1 v24 w') → (TysV dd b5 [t2, t1] v25 w') → (StrV dd b5 v20 w') → (CellV w3.heap.size dd b5 w') → W 1 L a w' := by
    intro L a w' v20 v22 v24 v25 b5 t2 t1 hL ha hD hk f22 f24 f25 f20 f5
    subst hL
    have hr : Region.ready .any ops #[true, true, true, true, true, true, true, false, true, false] = [7] := by rw [hops]; kernel_rfl
    refine hstep _ _ _ _ (by rw [hr]; decide) fun i hi => ?_
    rw [hr] at hi
    simp only [List.mem_cons, List.not_mem_nil, or_false] at hi
    rcases hi with rfl
    · refine ⟨by decide, ?_⟩
      rw [hops]
      refine wpOp_at (o := ?oG3117) ?h0G3117 ?hwG3117 ?hG3117
      case h0G3117 => exact rfl
      case hwG3117 => exact rfl
      case hG3117 =>
      obtain ⟨b20, rfl, hb20, he20, hh20⟩ := f20
      obtain ⟨b25, vs25, rfl, hh25⟩ := f25
      have hrow : Row w' (Off dd b5 w') (some ⟨b20, 0, none⟩) (List.map sv [[84], [85]]) := row_cells hh20 rfl ⟨lt_of_heap hh20, hb20, he20⟩
      have hpw : TyIs w' (Off dd b5 w') p (sv pn) (.slice ps.1 ps.2.1 ps.2.2) := (HP3.out.keep (kept_off hk)).more fun y hy => ⟨Nat.lt_of_lt_of_le hy.1 hk.size, hy.2.1, by have := f5.2.1; have := hy.1; omega⟩
      rw [ha, ha0]
      go_simp
      refine (refPut_any (Off dd b5 w') [[84], [85]] [t2, t1] (by decide) p _ _ _ _ 2 2 _ w' (fun y hy => hy.1) hpw hrow hh25).mono ?_
      rintro e w'' ⟨u, v, rfl, hT, hb⟩
      obtain ⟨u, v, rfl, rfl⟩ := hT.shape
      have hk' : Kp (fun y => y = dd) w' w'' := Kp.ofBelow hb
      have f20 : StrV dd b5 (.slice (some ⟨b20, 0, none⟩) 2 2) w' := ⟨b20, rfl, hb20, he20, hh20⟩
      have f25 : TysV dd b5 [t2, t1] (.slice (some ⟨b25, 0, none⟩) 2 2) w' := ⟨b25, vs25, rfl, hh25⟩
      exact ⟨HS3.out _ (hk.one hk'), G411 _ _ _ _ (v22) (v24) _ (Value.agg #[sv u, .slice v.1 v.2.1 v.2.2]) (b5) (t2) (t1) rfl (by rw [ha0]; rfl) (hD.below hb) (hk.one hk') (⟨f22.1, f22.2.keep hk'⟩) (⟨f24.1, f24.2.keep hk'⟩) (f25.keep hk') (⟨u, v, rfl, hT.more fun y hy => hy.elim (fun h => off_more hk' y h) (fun h => ⟨h.2, by have := hD.lt; have := h.1; omega, by have := (lt_of_heap f5.2.2); have := h.1; omega⟩)⟩) (f20.keep hk') (f5.keep hk')⟩
  have G410 : ∀ (L : Array Bool) (a : Act) (w' : World) (v20 v22 v24 v25 v26 : Value) (t2 t1 : Ty), L = #[true, true, true, true, true, true, true, true, false, false] → a = (((((a0.put (some 20) v20).put (some 22) v22).put (some 24) v24).put (some 25) v25).put (some 26) v26) → DiceAt w' dd xs → Kp (fun y => y = dd) w3 w' → (DTy 2 t2 ∧ TyV dd dd t2 v22 w') → (DTy 1 t1 ∧ TyV dd dd t1 v24 w') → (TysV dd dd [t2, t1] v25 w') → (TyV dd dd (putN [[84], [85]] [t2, t1] p) v26 w') → (StrV dd dd v20 w') → W 1 L a w' := by
    intro L a w' v20 v22 v24 v25 v26 t2 t1 hL ha hD hk f22 f24 f25 f26 f20
    subst hL
    have hr : Region.ready .any ops #[true, true, true, true, true, true, true, true, false, false] = [8] := by rw [hops]; kernel_rfl
    refine hstep _ _ _ _ (by rw [hr]; decide) fun i hi => ?_
    rw [hr] at hi
    simp only [List.mem_cons, List.not_mem_nil, or_false] at hi
    rcases hi with rfl
    · refine ⟨by decide, ?_⟩
      rw [hops]
      refine wpOp_at (o := ?oG4108) ?h0G4108 ?hwG4108 ?hG4108
      case h0G4108 => exact rfl
      case hwG4108 => exact rfl
      case hG4108 =>
      rw [ha, ha0]
      go_simp
      have hk' : Kp (fun y => y = dd) w' (w'.alloc (.cells #[.string ⟨#[]⟩, .slice none 0 0] 29)) := kp_alloc _
      have hbl := alloc1 w' (.cells #[.string ⟨#[]⟩, .slice none 0 0] 29)
      exact ⟨HS3.out _ (hk.one hk'), G411 _ _ _ (v20) (v22) (v24) (v25) (v26) (w'.heap.size) (t2) (t1) rfl (by rw [ha0]; rfl) (hD.below ((Below.refl _ _).alloc (Nat.le_refl _) _)) (hk.one hk') (⟨f22.1, f22.2.cell _⟩) (⟨f24.1, f24.2.cell _⟩) (f25.cell _) (f26.cell _) (f20.cell _) (⟨by have := hD.lt; omega, hk.size, hbl⟩)⟩
  have G211 : ∀ (L : Array Bool) (a : Act) (w' : World) (v20 v22 v24 : Value) (b5 : Nat) (t2 t1 : Ty), L = #[true, true, true, true, true, true, false, false, true, false] → a = ((((a0.put (some 5) (Value.pointer (some ⟨b5, 0, none⟩))).put (some 20) v20).put (some 22) v22).put (some 24) v24) → DiceAt w' dd xs → Kp (fun y => y = dd) w3 w' → (DTy 2 t2 ∧ TyV dd b5 t2 v22 w') → (DTy 1 t1 ∧ TyV dd b5 t1 v24 w') → (StrV dd b5 v20 w') → (CellV w3.heap.size dd b5 w') → W 2 L a w' := by
    intro L a w' v20 v22 v24 b5 t2 t1 hL ha hD hk f22 f24 f20 f5
    subst hL
    have hr : Region.ready .any ops #[true, true, true, true, true, true, false, false, true, false] = [6] := by rw [hops]; kernel_rfl
    refine hstep _ _ _ _ (by rw [hr]; decide) fun i hi => ?_
    rw [hr] at hi
    simp only [List.mem_cons, List.not_mem_nil, or_false] at hi
    rcases hi with rfl
    · refine ⟨by decide, ?_⟩
      rw [hops]
      refine wpOp_at (o := ?oG2116) ?h0G2116 ?hwG2116 ?hG2116
      case h0G2116 => exact rfl
      case hwG2116 => exact rfl
      case hG2116 =>
      obtain ⟨d2, n2, s2, rfl, h2⟩ := f22
      obtain ⟨d1, n1, s1, rfl, h1⟩ := f24
      rw [ha, ha0]
      go_simp
      have hk' : Kp (fun y => y = dd) w' (w'.alloc (.cells #[sv n2, .slice s2.1 s2.2.1 s2.2.2, sv n1, .slice s1.1 s1.2.1 s1.2.2] 29)) := kp_alloc _
      have f22 : DTy 2 t2 ∧ TyV dd b5 t2 (.agg #[sv n2, .slice s2.1 s2.2.1 s2.2.2]) w' := ⟨d2, n2, s2, rfl, h2⟩
      have f24 : DTy 1 t1 ∧ TyV dd b5 t1 (.agg #[sv n1, .slice s1.1 s1.2.1 s1.2.2]) w' := ⟨d1, n1, s1, rfl, h1⟩
      exact ⟨HS3.out _ (hk.one hk'), G311 _ _ _ (v20) _ _ (Value.slice (some ⟨w'.heap.size, 0, none⟩) 2 2) (b5) (t2) (t1) rfl (by rw [ha0]; rfl) (hD.below ((Below.refl _ _).alloc (Nat.le_refl _) _)) (hk.one hk') (⟨f22.1, f22.2.keep hk'⟩) (⟨f24.1, f24.2.keep hk'⟩) (TysV.two hD.lt (lt_of_heap f5.2.2) h2 h1) (f20.keep hk') (f5.keep hk')⟩
  have G301 : ∀ (L : Array Bool) (a : Act) (w' : World) (v22 v24 v25 : Value) (b5 : Nat) (t2 t1 : Ty), L = #[true, false, true, true, true, true, true, false, true, false] → a = ((((a0.put (some 5) (Value.pointer (some ⟨b5, 0, none⟩))).put (some 22) v22).put (some 24) v24).put (some 25) v25) → DiceAt w' dd xs → Kp (fun y => y = dd) w3 w' → (DTy 2 t2 ∧ TyV dd b5 t2 v22 w') → (DTy 1 t1 ∧ TyV dd b5 t1 v24 w') → (TysV dd b5 [t2, t1] v25 w') → (CellV w3.heap.size dd b5 w') → W 2 L a w' := by
    intro L a w' v22 v24 v25 b5 t2 t1 hL ha hD hk f22 f24 f25 f5
    subst hL
    have hr : Region.ready .any ops #[true, false, true, true, true, true, true, false, true, false] = [1] := by rw [hops]; kernel_rfl
    refine hstep _ _ _ _ (by rw [hr]; decide) fun i hi => ?_
    rw [hr] at hi
    simp only [List.mem_cons, List.not_mem_nil, or_false] at hi
    rcases hi with rfl
    · refine ⟨by decide, ?_⟩
      rw [hops]
      refine wpOp_at (o := ?oG3011) ?h0G3011 ?hwG3011 ?hG3011
      case h0G3011 => exact rfl
      case hwG3011 => exact rfl
      case hG3011 =>
      rw [ha, ha0]
      go_simp
      have hk' : Kp (fun y => y = dd) w' (w'.alloc (.cells #[.string ⟨#[84]⟩, .string ⟨#[85]⟩] 9)) := kp_alloc _
      have hbl := alloc1 w' (.cells #[.string ⟨#[84]⟩, .string ⟨#[85]⟩] 9)
      exact ⟨HS3.out _ (hk.one hk'), G311 _ _ _ (Value.slice (some ⟨w'.heap.size, 0, none⟩) 2 2) (v22) (v24) (v25) (b5) (t2) (t1) rfl (by rw [ha0]; rfl) (hD.below ((Below.refl _ _).alloc (Nat.le_refl _) _)) (hk.one hk') (⟨f22.1, f22.2.keep hk'⟩) (⟨f24.1, f24.2.keep hk'⟩) (f25.keep hk') (⟨w'.heap.size, rfl, by have := hD.lt; omega, by have := (lt_of_heap f5.2.2); omega, hbl⟩) (f5.keep hk')⟩
  have G310 : ∀ (L : Array Bool) (a : Act) (w' : World) (v20 v22 v24 v25 : Value) (t2 t1 : Ty), L = #[true, true, true, true, true, true, true, false, false, false] → a = ((((a0.put (some 20) v20).put (some 22) v22).put (some 24) v24).put (some 25) v25) → DiceAt w' dd xs → Kp (fun y => y = dd) w3 w' → (DTy 2 t2 ∧ TyV dd dd t2 v22 w') → (DTy 1 t1 ∧ TyV dd dd t1 v24 w') → (TysV dd dd [t2, t1] v25 w') → (StrV dd dd v20 w') → W 2 L a w' := by
    intro L a w' v20 v22 v24 v25 t2 t1 hL ha hD hk f22 f24 f25 f20
    subst hL
    have hr : Region.ready .any ops #[true, true, true, true, true, true, true, false, false, false] = [7, 8] := by rw [hops]; kernel_rfl
    refine hstep _ _ _ _ (by rw [hr]; decide) fun i hi => ?_
    rw [hr] at hi
    simp only [List.mem_cons, List.not_mem_nil, or_false] at hi
    rcases hi with rfl | rfl
    · refine ⟨by decide, ?_⟩
      rw [hops]
      refine wpOp_at (o := ?oG3107) ?h0G3107 ?hwG3107 ?hG3107
      case h0G3107 => exact rfl
      case hwG3107 => exact rfl
      case hG3107 =>
      obtain ⟨b20, rfl, hb20, he20, hh20⟩ := f20
      obtain ⟨b25, vs25, rfl, hh25⟩ := f25
      have hrow : Row w' (Off dd dd w') (some ⟨b20, 0, none⟩) (List.map sv [[84], [85]]) := row_cells hh20 rfl ⟨lt_of_heap hh20, hb20, he20⟩
      have hpw : TyIs w' (Off dd dd w') p (sv pn) (.slice ps.1 ps.2.1 ps.2.2) := (HP3.out.keep (kept_off hk)).more fun y hy => ⟨Nat.lt_of_lt_of_le hy.1 hk.size, hy.2.1, hy.2.1⟩
      rw [ha, ha0]
      go_simp
      refine (refPut_any (Off dd dd w') [[84], [85]] [t2, t1] (by decide) p _ _ _ _ 2 2 _ w' (fun y hy => hy.1) hpw hrow hh25).mono ?_
      rintro e w'' ⟨u, v, rfl, hT, hb⟩
      obtain ⟨u, v, rfl, rfl⟩ := hT.shape
      have hk' : Kp (fun y => y = dd) w' w'' := Kp.ofBelow hb
      have f20 : StrV dd dd (.slice (some ⟨b20, 0, none⟩) 2 2) w' := ⟨b20, rfl, hb20, he20, hh20⟩
      have f25 : TysV dd dd [t2, t1] (.slice (some ⟨b25, 0, none⟩) 2 2) w' := ⟨b25, vs25, rfl, hh25⟩
      exact ⟨HS3.out _ (hk.one hk'), G410 _ _ _ _ (v22) (v24) _ (Value.agg #[sv u, .slice v.1 v.2.1 v.2.2]) (t2) (t1) rfl (by rw [ha0]; rfl) (hD.below hb) (hk.one hk') (⟨f22.1, f22.2.keep hk'⟩) (⟨f24.1, f24.2.keep hk'⟩) (f25.keep hk') (⟨u, v, rfl, hT.more fun y hy => hy.elim (fun h => off_more hk' y h) (fun h => ⟨h.2, by have := hD.lt; have := h.1; omega, by have := hD.lt; have := h.1; omega⟩)⟩) (f20.keep hk')⟩
    · refine ⟨by decide, ?_⟩
      rw [hops]
      refine wpOp_at (o := ?oG3108) ?h0G3108 ?hwG3108 ?hG3108
      case h0G3108 => exact rfl
      case hwG3108 => exact rfl
      case hG3108 =>
      rw [ha, ha0]
      go_simp
      have hk' : Kp (fun y => y = dd) w' (w'.alloc (.cells #[.string ⟨#[]⟩, .slice none 0 0] 29)) := kp_alloc _
      have hbl := alloc1 w' (.cells #[.string ⟨#[]⟩, .slice none 0 0] 29)
      exact ⟨HS3.out _ (hk.one hk'), G311 _ _ _ (v20) (v22) (v24) (v25) (w'.heap.size) (t2) (t1) rfl (by rw [ha0]; rfl) (hD.below ((Below.refl _ _).alloc (Nat.le_refl _) _)) (hk.one hk') (⟨f22.1, f22.2.cell _⟩) (⟨f24.1, f24.2.cell _⟩) (f25.cell _) (f20.cell _) (⟨by have := hD.lt; omega, hk.size, hbl⟩)⟩
  have G111 : ∀ (L : Array Bool) (a : Act) (w' : World) (v20 v22 : Value) (b5 : Nat) (t2 : Ty), L = #[true, true, true, true, true, false, false, false, true, false] → a = (((a0.put (some 5) (Value.pointer (some ⟨b5, 0, none⟩))).put (some 20) v20).put (some 22) v22) → DiceAt w' dd xs → Kp (fun y => y = dd) w3 w' → (DTy 2 t2 ∧ TyV dd b5 t2 v22 w') → (StrV dd b5 v20 w') → (CellV w3.heap.size dd b5 w') → W 3 L a w' := by
    intro L a w' v20 v22 b5 t2 hL ha hD hk f22 f20 f5
    subst hL
    have hr : Region.ready .any ops #[true, true, true, true, true, false, false, false, true, false] = [5] := by rw [hops]; kernel_rfl
    refine hstep _ _ _ _ (by rw [hr]; decide) fun i hi => ?_
    rw [hr] at hi
    simp only [List.mem_cons, List.not_mem_nil, or_false] at hi
    rcases hi with rfl
    · refine ⟨by decide, ?_⟩
      rw [hops]
      refine wpOp_at (o := ?oG1115) ?h0G1115 ?hwG1115 ?hG1115
      case h0G1115 => exact rfl
      case hwG1115 => exact rfl
      case hG1115 =>
      rw [ha, ha0]
      go_simp
      refine (dtype_any 1 dd xs w' (by omega) hD).mono ?_
      intro e w'' hres
      obtain ⟨t1, vv, rfl, hdt, htv, hD', hk'⟩ := TyV.made hD.lt (lt_of_heap f5.2.2) hres
      exact ⟨HS3.out _ (hk.one hk'), G211 _ _ _ (v20) (v22) (vv) (b5) (t2) (t1) rfl (by rw [ha0]; rfl) (hD') (hk.one hk') (⟨f22.1, f22.2.keep hk'⟩) (⟨hdt, htv⟩) (f20.keep hk') (f5.keep hk')⟩
  have G201 : ∀ (L : Array Bool) (a : Act) (w' : World) (v22 v24 : Value) (b5 : Nat) (t2 t1 : Ty), L = #[true, false, true, true, true, true, false, false, true, false] → a = (((a0.put (some 5) (Value.pointer (some ⟨b5, 0, none⟩))).put (some 22) v22).put (some 24) v24) → DiceAt w' dd xs → Kp (fun y => y = dd) w3 w' → (DTy 2 t2 ∧ TyV dd b5 t2 v22 w') → (DTy 1 t1 ∧ TyV dd b5 t1 v24 w') → (CellV w3.heap.size dd b5 w') → W 3 L a w' := by
    intro L a w' v22 v24 b5 t2 t1 hL ha hD hk f22 f24 f5
    subst hL
    have hr : Region.ready .any ops #[true, false, true, true, true, true, false, false, true, false] = [1, 6] := by rw [hops]; kernel_rfl
    refine hstep _ _ _ _ (by rw [hr]; decide) fun i hi => ?_
    rw [hr] at hi
    simp only [List.mem_cons, List.not_mem_nil, or_false] at hi
    rcases hi with rfl | rfl
    · refine ⟨by decide, ?_⟩
      rw [hops]
      refine wpOp_at (o := ?oG2011) ?h0G2011 ?hwG2011 ?hG2011
      case h0G2011 => exact rfl
      case hwG2011 => exact rfl
      case hG2011 =>
      rw [ha, ha0]
      go_simp
      have hk' : Kp (fun y => y = dd) w' (w'.alloc (.cells #[.string ⟨#[84]⟩, .string ⟨#[85]⟩] 9)) := kp_alloc _
      have hbl := alloc1 w' (.cells #[.string ⟨#[84]⟩, .string ⟨#[85]⟩] 9)
      exact ⟨HS3.out _ (hk.one hk'), G211 _ _ _ (Value.slice (some ⟨w'.heap.size, 0, none⟩) 2 2) (v22) (v24) (b5) (t2) (t1) rfl (by rw [ha0]; rfl) (hD.below ((Below.refl _ _).alloc (Nat.le_refl _) _)) (hk.one hk') (⟨f22.1, f22.2.keep hk'⟩) (⟨f24.1, f24.2.keep hk'⟩) (⟨w'.heap.size, rfl, by have := hD.lt; omega, by have := (lt_of_heap f5.2.2); omega, hbl⟩) (f5.keep hk')⟩
    · refine ⟨by decide, ?_⟩
      rw [hops]
      refine wpOp_at (o := ?oG2016) ?h0G2016 ?hwG2016 ?hG2016
      case h0G2016 => exact rfl
      case hwG2016 => exact rfl
      case hG2016 =>
      obtain ⟨d2, n2, s2, rfl, h2⟩ := f22
      obtain ⟨d1, n1, s1, rfl, h1⟩ := f24
      rw [ha, ha0]
      go_simp
      have hk' : Kp (fun y => y = dd) w' (w'.alloc (.cells #[sv n2, .slice s2.1 s2.2.1 s2.2.2, sv n1, .slice s1.1 s1.2.1 s1.2.2] 29)) := kp_alloc _
      have f22 : DTy 2 t2 ∧ TyV dd b5 t2 (.agg #[sv n2, .slice s2.1 s2.2.1 s2.2.2]) w' := ⟨d2, n2, s2, rfl, h2⟩
      have f24 : DTy 1 t1 ∧ TyV dd b5 t1 (.agg #[sv n1, .slice s1.1 s1.2.1 s1.2.2]) w' := ⟨d1, n1, s1, rfl, h1⟩
      exact ⟨HS3.out _ (hk.one hk'), G301 _ _ _ _ _ (Value.slice (some ⟨w'.heap.size, 0, none⟩) 2 2) (b5) (t2) (t1) rfl (by rw [ha0]; rfl) (hD.below ((Below.refl _ _).alloc (Nat.le_refl _) _)) (hk.one hk') (⟨f22.1, f22.2.keep hk'⟩) (⟨f24.1, f24.2.keep hk'⟩) (TysV.two hD.lt (lt_of_heap f5.2.2) h2 h1) (f5.keep hk')⟩
  have G210 : ∀ (L : Array Bool) (a : Act) (w' : World) (v20 v22 v24 : Value) (t2 t1 : Ty), L = #[true, true, true, true, true, true, false, false, false, false] → a = (((a0.put (some 20) v20).put (some 22) v22).put (some 24) v24) → DiceAt w' dd xs → Kp (fun y => y = dd) w3 w' → (DTy 2 t2 ∧ TyV dd dd t2 v22 w') → (DTy 1 t1 ∧ TyV dd dd t1 v24 w') → (StrV dd dd v20 w') → W 3 L a w' := by
    intro L a w' v20 v22 v24 t2 t1 hL ha hD hk f22 f24 f20
    subst hL
    have hr : Region.ready .any ops #[true, true, true, true, true, true, false, false, false, false] = [6, 8] := by rw [hops]; kernel_rfl
    refine hstep _ _ _ _ (by rw [hr]; decide) fun i hi => ?_
    rw [hr] at hi
    simp only [List.mem_cons, List.not_mem_nil, or_false] at hi
    rcases hi with rfl | rfl
    · refine ⟨by decide, ?_⟩
      rw [hops]
      refine wpOp_at (o := ?oG2106) ?h0G2106 ?hwG2106 ?hG2106
      case h0G2106 => exact rfl
      case hwG2106 => exact rfl
      case hG2106 =>
      obtain ⟨d2, n2, s2, rfl, h2⟩ := f22
      obtain ⟨d1, n1, s1, rfl, h1⟩ := f24
      rw [ha, ha0]
      go_simp
      have hk' : Kp (fun y => y = dd) w' (w'.alloc (.cells #[sv n2, .slice s2.1 s2.2.1 s2.2.2, sv n1, .slice s1.1 s1.2.1 s1.2.2] 29)) := kp_alloc _
      have f22 : DTy 2 t2 ∧ TyV dd dd t2 (.agg #[sv n2, .slice s2.1 s2.2.1 s2.2.2]) w' := ⟨d2, n2, s2, rfl, h2⟩
      have f24 : DTy 1 t1 ∧ TyV dd dd t1 (.agg #[sv n1, .slice s1.1 s1.2.1 s1.2.2]) w' := ⟨d1, n1, s1, rfl, h1⟩
      exact ⟨HS3.out _ (hk.one hk'), G310 _ _ _ (v20) _ _ (Value.slice (some ⟨w'.heap.size, 0, none⟩) 2 2) (t2) (t1) rfl (by rw [ha0]; rfl) (hD.below ((Below.refl _ _).alloc (Nat.le_refl _) _)) (hk.one hk') (⟨f22.1, f22.2.keep hk'⟩) (⟨f24.1, f24.2.keep hk'⟩) (TysV.two hD.lt hD.lt h2 h1) (f20.keep hk')⟩
    · refine ⟨by decide, ?_⟩
      rw [hops]
      refine wpOp_at (o := ?oG2108) ?h0G2108 ?hwG2108 ?hG2108
      case h0G2108 => exact rfl
      case hwG2108 => exact rfl
      case hG2108 =>
      rw [ha, ha0]
      go_simp
      have hk' : Kp (fun y => y = dd) w' (w'.alloc (.cells #[.string ⟨#[]⟩, .slice none 0 0] 29)) := kp_alloc _
      have hbl := alloc1 w' (.cells #[.string ⟨#[]⟩, .slice none 0 0] 29)
      exact ⟨HS3.out _ (hk.one hk'), G211 _ _ _ (v20) (v22) (v24) (w'.heap.size) (t2) (t1) rfl (by rw [ha0]; rfl) (hD.below ((Below.refl _ _).alloc (Nat.le_refl _) _)) (hk.one hk') (⟨f22.1, f22.2.cell _⟩) (⟨f24.1, f24.2.cell _⟩) (f20.cell _) (⟨by have := hD.lt; omega, hk.size, hbl⟩)⟩
  have G300 : ∀ (L : Array Bool) (a : Act) (w' : World) (v22 v24 v25 : Value) (t2 t1 : Ty), L = #[true, false, true, true, true, true, true, false, false, false] → a = (((a0.put (some 22) v22).put (some 24) v24).put (some 25) v25) → DiceAt w' dd xs → Kp (fun y => y = dd) w3 w' → (DTy 2 t2 ∧ TyV dd dd t2 v22 w') → (DTy 1 t1 ∧ TyV dd dd t1 v24 w') → (TysV dd dd [t2, t1] v25 w') → W 3 L a w' := by
    intro L a w' v22 v24 v25 t2 t1 hL ha hD hk f22 f24 f25
    subst hL
    have hr : Region.ready .any ops #[true, false, true, true, true, true, true, false, false, false] = [1, 8] := by rw [hops]; kernel_rfl
    refine hstep _ _ _ _ (by rw [hr]; decide) fun i hi => ?_
    rw [hr] at hi
    simp only [List.mem_cons, List.not_mem_nil, or_false] at hi
    rcases hi with rfl | rfl
    · refine ⟨by decide, ?_⟩
      rw [hops]
      refine wpOp_at (o := ?oG3001) ?h0G3001 ?hwG3001 ?hG3001
      case h0G3001 => exact rfl
      case hwG3001 => exact rfl
      case hG3001 =>
      rw [ha, ha0]
      go_simp
      have hk' : Kp (fun y => y = dd) w' (w'.alloc (.cells #[.string ⟨#[84]⟩, .string ⟨#[85]⟩] 9)) := kp_alloc _
      have hbl := alloc1 w' (.cells #[.string ⟨#[84]⟩, .string ⟨#[85]⟩] 9)
      exact ⟨HS3.out _ (hk.one hk'), G310 _ _ _ (Value.slice (some ⟨w'.heap.size, 0, none⟩) 2 2) (v22) (v24) (v25) (t2) (t1) rfl (by rw [ha0]; rfl) (hD.below ((Below.refl _ _).alloc (Nat.le_refl _) _)) (hk.one hk') (⟨f22.1, f22.2.keep hk'⟩) (⟨f24.1, f24.2.keep hk'⟩) (f25.keep hk') (⟨w'.heap.size, rfl, by have := hD.lt; omega, by have := hD.lt; omega, hbl⟩)⟩
    · refine ⟨by decide, ?_⟩
      rw [hops]
      refine wpOp_at (o := ?oG3008) ?h0G3008 ?hwG3008 ?hG3008
      case h0G3008 => exact rfl
      case hwG3008 => exact rfl
      case hG3008 =>
      rw [ha, ha0]
      go_simp
      have hk' : Kp (fun y => y = dd) w' (w'.alloc (.cells #[.string ⟨#[]⟩, .slice none 0 0] 29)) := kp_alloc _
      have hbl := alloc1 w' (.cells #[.string ⟨#[]⟩, .slice none 0 0] 29)
      exact ⟨HS3.out _ (hk.one hk'), G301 _ _ _ (v22) (v24) (v25) (w'.heap.size) (t2) (t1) rfl (by rw [ha0]; rfl) (hD.below ((Below.refl _ _).alloc (Nat.le_refl _) _)) (hk.one hk') (⟨f22.1, f22.2.cell _⟩) (⟨f24.1, f24.2.cell _⟩) (f25.cell _) (⟨by have := hD.lt; omega, hk.size, hbl⟩)⟩
  have G011 : ∀ (L : Array Bool) (a : Act) (w' : World) (v20 : Value) (b5 : Nat), L = #[true, true, true, false, true, false, false, false, true, false] → a = ((a0.put (some 5) (Value.pointer (some ⟨b5, 0, none⟩))).put (some 20) v20) → DiceAt w' dd xs → Kp (fun y => y = dd) w3 w' → (StrV dd b5 v20 w') → (CellV w3.heap.size dd b5 w') → W 4 L a w' := by
    intro L a w' v20 b5 hL ha hD hk f20 f5
    subst hL
    have hr : Region.ready .any ops #[true, true, true, false, true, false, false, false, true, false] = [3] := by rw [hops]; kernel_rfl
    refine hstep _ _ _ _ (by rw [hr]; decide) fun i hi => ?_
    rw [hr] at hi
    simp only [List.mem_cons, List.not_mem_nil, or_false] at hi
    rcases hi with rfl
    · refine ⟨by decide, ?_⟩
      rw [hops]
      refine wpOp_at (o := ?oG0113) ?h0G0113 ?hwG0113 ?hG0113
      case h0G0113 => exact rfl
      case hwG0113 => exact rfl
      case hG0113 =>
      rw [ha, ha0]
      go_simp
      refine (dtype_any 2 dd xs w' (by omega) hD).mono ?_
      intro e w'' hres
      obtain ⟨t2, vv, rfl, hdt, htv, hD', hk'⟩ := TyV.made hD.lt (lt_of_heap f5.2.2) hres
      exact ⟨HS3.out _ (hk.one hk'), G111 _ _ _ (v20) (vv) (b5) (t2) rfl (by rw [ha0]; rfl) (hD') (hk.one hk') (⟨hdt, htv⟩) (f20.keep hk') (f5.keep hk')⟩
  have G101 : ∀ (L : Array Bool) (a : Act) (w' : World) (v22 : Value) (b5 : Nat) (t2 : Ty), L = #[true, false, true, true, true, false, false, false, true, false] → a = ((a0.put (some 5) (Value.pointer (some ⟨b5, 0, none⟩))).put (some 22) v22) → DiceAt w' dd xs → Kp (fun y => y = dd) w3 w' → (DTy 2 t2 ∧ TyV dd b5 t2 v22 w') → (CellV w3.heap.size dd b5 w') → W 4 L a w' := by
    intro L a w' v22 b5 t2 hL ha hD hk f22 f5
    subst hL
    have hr : Region.ready .any ops #[true, false, true, true, true, false, false, false, true, false] = [1, 5] := by rw [hops]; kernel_rfl
    refine hstep _ _ _ _ (by rw [hr]; decide) fun i hi => ?_
    rw [hr] at hi
    simp only [List.mem_cons, List.not_mem_nil, or_false] at hi
    rcases hi with rfl | rfl
    · refine ⟨by decide, ?_⟩
      rw [hops]
      refine wpOp_at (o := ?oG1011) ?h0G1011 ?hwG1011 ?hG1011
      case h0G1011 => exact rfl
      case hwG1011 => exact rfl
      case hG1011 =>
      rw [ha, ha0]
      go_simp
      have hk' : Kp (fun y => y = dd) w' (w'.alloc (.cells #[.string ⟨#[84]⟩, .string ⟨#[85]⟩] 9)) := kp_alloc _
      have hbl := alloc1 w' (.cells #[.string ⟨#[84]⟩, .string ⟨#[85]⟩] 9)
      exact ⟨HS3.out _ (hk.one hk'), G111 _ _ _ (Value.slice (some ⟨w'.heap.size, 0, none⟩) 2 2) (v22) (b5) (t2) rfl (by rw [ha0]; rfl) (hD.below ((Below.refl _ _).alloc (Nat.le_refl _) _)) (hk.one hk') (⟨f22.1, f22.2.keep hk'⟩) (⟨w'.heap.size, rfl, by have := hD.lt; omega, by have := (lt_of_heap f5.2.2); omega, hbl⟩) (f5.keep hk')⟩
    · refine ⟨by decide, ?_⟩
      rw [hops]
      refine wpOp_at (o := ?oG1015) ?h0G1015 ?hwG1015 ?hG1015
      case h0G1015 => exact rfl
      case hwG1015 => exact rfl
      case hG1015 =>
      rw [ha, ha0]
      go_simp
      refine (dtype_any 1 dd xs w' (by omega) hD).mono ?_
      intro e w'' hres
      obtain ⟨t1, vv, rfl, hdt, htv, hD', hk'⟩ := TyV.made hD.lt (lt_of_heap f5.2.2) hres
      exact ⟨HS3.out _ (hk.one hk'), G201 _ _ _ (v22) (vv) (b5) (t2) (t1) rfl (by rw [ha0]; rfl) (hD') (hk.one hk') (⟨f22.1, f22.2.keep hk'⟩) (⟨hdt, htv⟩) (f5.keep hk')⟩
  have G110 : ∀ (L : Array Bool) (a : Act) (w' : World) (v20 v22 : Value) (t2 : Ty), L = #[true, true, true, true, true, false, false, false, false, false] → a = ((a0.put (some 20) v20).put (some 22) v22) → DiceAt w' dd xs → Kp (fun y => y = dd) w3 w' → (DTy 2 t2 ∧ TyV dd dd t2 v22 w') → (StrV dd dd v20 w') → W 4 L a w' := by
    intro L a w' v20 v22 t2 hL ha hD hk f22 f20
    subst hL
    have hr : Region.ready .any ops #[true, true, true, true, true, false, false, false, false, false] = [5, 8] := by rw [hops]; kernel_rfl
    refine hstep _ _ _ _ (by rw [hr]; decide) fun i hi => ?_
    rw [hr] at hi
    simp only [List.mem_cons, List.not_mem_nil, or_false] at hi
    rcases hi with rfl | rfl
    · refine ⟨by decide, ?_⟩
      rw [hops]
      refine wpOp_at (o := ?oG1105) ?h0G1105 ?hwG1105 ?hG1105
      case h0G1105 => exact rfl
      case hwG1105 => exact rfl
      case hG1105 =>
      rw [ha, ha0]
      go_simp
      refine (dtype_any 1 dd xs w' (by omega) hD).mono ?_
      intro e w'' hres
      obtain ⟨t1, vv, rfl, hdt, htv, hD', hk'⟩ := TyV.made hD.lt hD.lt hres
      exact ⟨HS3.out _ (hk.one hk'), G210 _ _ _ (v20) (v22) (vv) (t2) (t1) rfl (by rw [ha0]; rfl) (hD') (hk.one hk') (⟨f22.1, f22.2.keep hk'⟩) (⟨hdt, htv⟩) (f20.keep hk')⟩
    · refine ⟨by decide, ?_⟩
      rw [hops]
      refine wpOp_at (o := ?oG1108) ?h0G1108 ?hwG1108 ?hG1108
      case h0G1108 => exact rfl
      case hwG1108 => exact rfl
      case hG1108 =>
      rw [ha, ha0]
      go_simp
      have hk' : Kp (fun y => y = dd) w' (w'.alloc (.cells #[.string ⟨#[]⟩, .slice none 0 0] 29)) := kp_alloc _
      have hbl := alloc1 w' (.cells #[.string ⟨#[]⟩, .slice none 0 0] 29)
      exact ⟨HS3.out _ (hk.one hk'), G111 _ _ _ (v20) (v22) (w'.heap.size) (t2) rfl (by rw [ha0]; rfl) (hD.below ((Below.refl _ _).alloc (Nat.le_refl _) _)) (hk.one hk') (⟨f22.1, f22.2.cell _⟩) (f20.cell _) (⟨by have := hD.lt; omega, hk.size, hbl⟩)⟩
  have G200 : ∀ (L : Array Bool) (a : Act) (w' : World) (v22 v24 : Value) (t2 t1 : Ty), L = #[true, false, true, true, true, true, false, false, false, false] → a = ((a0.put (some 22) v22).put (some 24) v24) → DiceAt w' dd xs → Kp (fun y => y = dd) w3 w' → (DTy 2 t2 ∧ TyV dd dd t2 v22 w') → (DTy 1 t1 ∧ TyV dd dd t1 v24 w') → W 4 L a w' := by
    intro L a w' v22 v24 t2 t1 hL ha hD hk f22 f24
    subst hL
    have hr : Region.ready .any ops #[true, false, true, true, true, true, false, false, false, false] = [1, 6, 8] := by rw [hops]; kernel_rfl
    refine hstep _ _ _ _ (by rw [hr]; decide) fun i hi => ?_
    rw [hr] at hi
    simp only [List.mem_cons, List.not_mem_nil, or_false] at hi
    rcases hi with rfl | rfl | rfl
    · refine ⟨by decide, ?_⟩
      rw [hops]
      refine wpOp_at (o := ?oG2001) ?h0G2001 ?hwG2001 ?hG2001
      case h0G2001 => exact rfl
      case hwG2001 => exact rfl
      case hG2001 =>
      rw [ha, ha0]
      go_simp
      have hk' : Kp (fun y => y = dd) w' (w'.alloc (.cells #[.string ⟨#[84]⟩, .string ⟨#[85]⟩] 9)) := kp_alloc _
      have hbl := alloc1 w' (.cells #[.string ⟨#[84]⟩, .string ⟨#[85]⟩] 9)
      exact ⟨HS3.out _ (hk.one hk'), G210 _ _ _ (Value.slice (some ⟨w'.heap.size, 0, none⟩) 2 2) (v22) (v24) (t2) (t1) rfl (by rw [ha0]; rfl) (hD.below ((Below.refl _ _).alloc (Nat.le_refl _) _)) (hk.one hk') (⟨f22.1, f22.2.keep hk'⟩) (⟨f24.1, f24.2.keep hk'⟩) (⟨w'.heap.size, rfl, by have := hD.lt; omega, by have := hD.lt; omega, hbl⟩)⟩
    · refine ⟨by decide, ?_⟩
      rw [hops]
      refine wpOp_at (o := ?oG2006) ?h0G2006 ?hwG2006 ?hG2006
      case h0G2006 => exact rfl
      case hwG2006 => exact rfl
      case hG2006 =>
      obtain ⟨d2, n2, s2, rfl, h2⟩ := f22
      obtain ⟨d1, n1, s1, rfl, h1⟩ := f24
      rw [ha, ha0]
      go_simp
      have hk' : Kp (fun y => y = dd) w' (w'.alloc (.cells #[sv n2, .slice s2.1 s2.2.1 s2.2.2, sv n1, .slice s1.1 s1.2.1 s1.2.2] 29)) := kp_alloc _
      have f22 : DTy 2 t2 ∧ TyV dd dd t2 (.agg #[sv n2, .slice s2.1 s2.2.1 s2.2.2]) w' := ⟨d2, n2, s2, rfl, h2⟩
      have f24 : DTy 1 t1 ∧ TyV dd dd t1 (.agg #[sv n1, .slice s1.1 s1.2.1 s1.2.2]) w' := ⟨d1, n1, s1, rfl, h1⟩
      exact ⟨HS3.out _ (hk.one hk'), G300 _ _ _ _ _ (Value.slice (some ⟨w'.heap.size, 0, none⟩) 2 2) (t2) (t1) rfl (by rw [ha0]; rfl) (hD.below ((Below.refl _ _).alloc (Nat.le_refl _) _)) (hk.one hk') (⟨f22.1, f22.2.keep hk'⟩) (⟨f24.1, f24.2.keep hk'⟩) (TysV.two hD.lt hD.lt h2 h1)⟩
    · refine ⟨by decide, ?_⟩
      rw [hops]
      refine wpOp_at (o := ?oG2008) ?h0G2008 ?hwG2008 ?hG2008
      case h0G2008 => exact rfl
      case hwG2008 => exact rfl
      case hG2008 =>
      rw [ha, ha0]
      go_simp
      have hk' : Kp (fun y => y = dd) w' (w'.alloc (.cells #[.string ⟨#[]⟩, .slice none 0 0] 29)) := kp_alloc _
      have hbl := alloc1 w' (.cells #[.string ⟨#[]⟩, .slice none 0 0] 29)
      exact ⟨HS3.out _ (hk.one hk'), G201 _ _ _ (v22) (v24) (w'.heap.size) (t2) (t1) rfl (by rw [ha0]; rfl) (hD.below ((Below.refl _ _).alloc (Nat.le_refl _) _)) (hk.one hk') (⟨f22.1, f22.2.cell _⟩) (⟨f24.1, f24.2.cell _⟩) (⟨by have := hD.lt; omega, hk.size, hbl⟩)⟩
  have G001 : ∀ (L : Array Bool) (a : Act) (w' : World) (b5 : Nat), L = #[true, false, true, false, true, false, false, false, true, false] → a = (a0.put (some 5) (Value.pointer (some ⟨b5, 0, none⟩))) → DiceAt w' dd xs → Kp (fun y => y = dd) w3 w' → (CellV w3.heap.size dd b5 w') → W 5 L a w' := by
    intro L a w' b5 hL ha hD hk f5
    subst hL
    have hr : Region.ready .any ops #[true, false, true, false, true, false, false, false, true, false] = [1, 3] := by rw [hops]; kernel_rfl
    refine hstep _ _ _ _ (by rw [hr]; decide) fun i hi => ?_
    rw [hr] at hi
    simp only [List.mem_cons, List.not_mem_nil, or_false] at hi
    rcases hi with rfl | rfl
    · refine ⟨by decide, ?_⟩
      rw [hops]
      refine wpOp_at (o := ?oG0011) ?h0G0011 ?hwG0011 ?hG0011
      case h0G0011 => exact rfl
      case hwG0011 => exact rfl
      case hG0011 =>
      rw [ha, ha0]
      go_simp
      have hk' : Kp (fun y => y = dd) w' (w'.alloc (.cells #[.string ⟨#[84]⟩, .string ⟨#[85]⟩] 9)) := kp_alloc _
      have hbl := alloc1 w' (.cells #[.string ⟨#[84]⟩, .string ⟨#[85]⟩] 9)
      exact ⟨HS3.out _ (hk.one hk'), G011 _ _ _ (Value.slice (some ⟨w'.heap.size, 0, none⟩) 2 2) (b5) rfl (by rw [ha0]; rfl) (hD.below ((Below.refl _ _).alloc (Nat.le_refl _) _)) (hk.one hk') (⟨w'.heap.size, rfl, by have := hD.lt; omega, by have := (lt_of_heap f5.2.2); omega, hbl⟩) (f5.keep hk')⟩
    · refine ⟨by decide, ?_⟩
      rw [hops]
      refine wpOp_at (o := ?oG0013) ?h0G0013 ?hwG0013 ?hG0013
      case h0G0013 => exact rfl
      case hwG0013 => exact rfl
      case hG0013 =>
      rw [ha, ha0]
      go_simp
      refine (dtype_any 2 dd xs w' (by omega) hD).mono ?_
      intro e w'' hres
      obtain ⟨t2, vv, rfl, hdt, htv, hD', hk'⟩ := TyV.made hD.lt (lt_of_heap f5.2.2) hres
      exact ⟨HS3.out _ (hk.one hk'), G101 _ _ _ (vv) (b5) (t2) rfl (by rw [ha0]; rfl) (hD') (hk.one hk') (⟨hdt, htv⟩) (f5.keep hk')⟩
  have G010 : ∀ (L : Array Bool) (a : Act) (w' : World) (v20 : Value), L = #[true, true, true, false, true, false, false, false, false, false] → a = (a0.put (some 20) v20) → DiceAt w' dd xs → Kp (fun y => y = dd) w3 w' → (StrV dd dd v20 w') → W 5 L a w' := by
    intro L a w' v20 hL ha hD hk f20
    subst hL
    have hr : Region.ready .any ops #[true, true, true, false, true, false, false, false, false, false] = [3, 8] := by rw [hops]; kernel_rfl
    refine hstep _ _ _ _ (by rw [hr]; decide) fun i hi => ?_
    rw [hr] at hi
    simp only [List.mem_cons, List.not_mem_nil, or_false] at hi
    rcases hi with rfl | rfl
    · refine ⟨by decide, ?_⟩
      rw [hops]
      refine wpOp_at (o := ?oG0103) ?h0G0103 ?hwG0103 ?hG0103
      case h0G0103 => exact rfl
      case hwG0103 => exact rfl
      case hG0103 =>
      rw [ha, ha0]
      go_simp
      refine (dtype_any 2 dd xs w' (by omega) hD).mono ?_
      intro e w'' hres
      obtain ⟨t2, vv, rfl, hdt, htv, hD', hk'⟩ := TyV.made hD.lt hD.lt hres
      exact ⟨HS3.out _ (hk.one hk'), G110 _ _ _ (v20) (vv) (t2) rfl (by rw [ha0]; rfl) (hD') (hk.one hk') (⟨hdt, htv⟩) (f20.keep hk')⟩
    · refine ⟨by decide, ?_⟩
      rw [hops]
      refine wpOp_at (o := ?oG0108) ?h0G0108 ?hwG0108 ?hG0108
      case h0G0108 => exact rfl
      case hwG0108 => exact rfl
      case hG0108 =>
      rw [ha, ha0]
      go_simp
      have hk' : Kp (fun y => y = dd) w' (w'.alloc (.cells #[.string ⟨#[]⟩, .slice none 0 0] 29)) := kp_alloc _
      have hbl := alloc1 w' (.cells #[.string ⟨#[]⟩, .slice none 0 0] 29)
      exact ⟨HS3.out _ (hk.one hk'), G011 _ _ _ (v20) (w'.heap.size) rfl (by rw [ha0]; rfl) (hD.below ((Below.refl _ _).alloc (Nat.le_refl _) _)) (hk.one hk') (f20.cell _) (⟨by have := hD.lt; omega, hk.size, hbl⟩)⟩
  have G100 : ∀ (L : Array Bool) (a : Act) (w' : World) (v22 : Value) (t2 : Ty), L = #[true, false, true, true, true, false, false, false, false, false] → a = (a0.put (some 22) v22) → DiceAt w' dd xs → Kp (fun y => y = dd) w3 w' → (DTy 2 t2 ∧ TyV dd dd t2 v22 w') → W 5 L a w' := by
    intro L a w' v22 t2 hL ha hD hk f22
    subst hL
    have hr : Region.ready .any ops #[true, false, true, true, true, false, false, false, false, false] = [1, 5, 8] := by rw [hops]; kernel_rfl
    refine hstep _ _ _ _ (by rw [hr]; decide) fun i hi => ?_
    rw [hr] at hi
    simp only [List.mem_cons, List.not_mem_nil, or_false] at hi
    rcases hi with rfl | rfl | rfl
    · refine ⟨by decide, ?_⟩
      rw [hops]
      refine wpOp_at (o := ?oG1001) ?h0G1001 ?hwG1001 ?hG1001
      case h0G1001 => exact rfl
      case hwG1001 => exact rfl
      case hG1001 =>
      rw [ha, ha0]
      go_simp
      have hk' : Kp (fun y => y = dd) w' (w'.alloc (.cells #[.string ⟨#[84]⟩, .string ⟨#[85]⟩] 9)) := kp_alloc _
      have hbl := alloc1 w' (.cells #[.string ⟨#[84]⟩, .string ⟨#[85]⟩] 9)
      exact ⟨HS3.out _ (hk.one hk'), G110 _ _ _ (Value.slice (some ⟨w'.heap.size, 0, none⟩) 2 2) (v22) (t2) rfl (by rw [ha0]; rfl) (hD.below ((Below.refl _ _).alloc (Nat.le_refl _) _)) (hk.one hk') (⟨f22.1, f22.2.keep hk'⟩) (⟨w'.heap.size, rfl, by have := hD.lt; omega, by have := hD.lt; omega, hbl⟩)⟩
    · refine ⟨by decide, ?_⟩
      rw [hops]
      refine wpOp_at (o := ?oG1005) ?h0G1005 ?hwG1005 ?hG1005
      case h0G1005 => exact rfl
      case hwG1005 => exact rfl
      case hG1005 =>
      rw [ha, ha0]
      go_simp
      refine (dtype_any 1 dd xs w' (by omega) hD).mono ?_
      intro e w'' hres
      obtain ⟨t1, vv, rfl, hdt, htv, hD', hk'⟩ := TyV.made hD.lt hD.lt hres
      exact ⟨HS3.out _ (hk.one hk'), G200 _ _ _ (v22) (vv) (t2) (t1) rfl (by rw [ha0]; rfl) (hD') (hk.one hk') (⟨f22.1, f22.2.keep hk'⟩) (⟨hdt, htv⟩)⟩
    · refine ⟨by decide, ?_⟩
      rw [hops]
      refine wpOp_at (o := ?oG1008) ?h0G1008 ?hwG1008 ?hG1008
      case h0G1008 => exact rfl
      case hwG1008 => exact rfl
      case hG1008 =>
      rw [ha, ha0]
      go_simp
      have hk' : Kp (fun y => y = dd) w' (w'.alloc (.cells #[.string ⟨#[]⟩, .slice none 0 0] 29)) := kp_alloc _
      have hbl := alloc1 w' (.cells #[.string ⟨#[]⟩, .slice none 0 0] 29)
      exact ⟨HS3.out _ (hk.one hk'), G101 _ _ _ (v22) (w'.heap.size) (t2) rfl (by rw [ha0]; rfl) (hD.below ((Below.refl _ _).alloc (Nat.le_refl _) _)) (hk.one hk') (⟨f22.1, f22.2.cell _⟩) (⟨by have := hD.lt; omega, hk.size, hbl⟩)⟩
  have G000 : ∀ (L : Array Bool) (a : Act) (w' : World), L = #[true, false, true, false, true, false, false, false, false, false] → a = a0 → DiceAt w' dd xs → Kp (fun y => y = dd) w3 w' → W 6 L a w' := by
    intro L a w'  hL ha hD hk 
    subst hL
    have hr : Region.ready .any ops #[true, false, true, false, true, false, false, false, false, false] = [1, 3, 8] := by rw [hops]; kernel_rfl
    refine hstep _ _ _ _ (by rw [hr]; decide) fun i hi => ?_
    rw [hr] at hi
    simp only [List.mem_cons, List.not_mem_nil, or_false] at hi
    rcases hi with rfl | rfl | rfl
    · refine ⟨by decide, ?_⟩
      rw [hops]
      refine wpOp_at (o := ?oG0001) ?h0G0001 ?hwG0001 ?hG0001
      case h0G0001 => exact rfl
      case hwG0001 => exact rfl
      case hG0001 =>
      rw [ha, ha0]
      go_simp
      have hk' : Kp (fun y => y = dd) w' (w'.alloc (.cells #[.string ⟨#[84]⟩, .string ⟨#[85]⟩] 9)) := kp_alloc _
      have hbl := alloc1 w' (.cells #[.string ⟨#[84]⟩, .string ⟨#[85]⟩] 9)
      exact ⟨HS3.out _ (hk.one hk'), G010 _ _ _ (Value.slice (some ⟨w'.heap.size, 0, none⟩) 2 2) rfl (by rw [ha0]; rfl) (hD.below ((Below.refl _ _).alloc (Nat.le_refl _) _)) (hk.one hk') (⟨w'.heap.size, rfl, by have := hD.lt; omega, by have := hD.lt; omega, hbl⟩)⟩
    · refine ⟨by decide, ?_⟩
      rw [hops]
      refine wpOp_at (o := ?oG0003) ?h0G0003 ?hwG0003 ?hG0003
      case h0G0003 => exact rfl
      case hwG0003 => exact rfl
      case hG0003 =>
      rw [ha, ha0]
      go_simp
      refine (dtype_any 2 dd xs w' (by omega) hD).mono ?_
      intro e w'' hres
      obtain ⟨t2, vv, rfl, hdt, htv, hD', hk'⟩ := TyV.made hD.lt hD.lt hres
      exact ⟨HS3.out _ (hk.one hk'), G100 _ _ _ (vv) (t2) rfl (by rw [ha0]; rfl) (hD') (hk.one hk') (⟨hdt, htv⟩)⟩
    · refine ⟨by decide, ?_⟩
      rw [hops]
      refine wpOp_at (o := ?oG0008) ?h0G0008 ?hwG0008 ?hG0008
      case h0G0008 => exact rfl
      case hwG0008 => exact rfl
      case hG0008 =>
      rw [ha, ha0]
      go_simp
      have hk' : Kp (fun y => y = dd) w' (w'.alloc (.cells #[.string ⟨#[]⟩, .slice none 0 0] 29)) := kp_alloc _
      have hbl := alloc1 w' (.cells #[.string ⟨#[]⟩, .slice none 0 0] 29)
      exact ⟨HS3.out _ (hk.one hk'), G001 _ _ _ (w'.heap.size) rfl (by rw [ha0]; rfl) (hD.below ((Below.refl _ _).alloc (Nat.le_refl _) _)) (hk.one hk') (⟨by have := hD.lt; omega, hk.size, hbl⟩)⟩
  exact G000 _ _ _ (by rw [hops]; rfl) rfl (HD3.out.below (Below.refl _ _).drew) hK3d
end Go.Proofs.YtmcoejknelhhcaaDoor
