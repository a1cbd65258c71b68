/-
  The walk of recompilelaw10.FactCodes.
  Conditions: 'Env'; what came in reads as a code, numbers, a text.
-/
import Derived.Test.YtkggmckfdkpldaaDoorFdN
import Derived.Test.YtkggmckfdkpldaaDoorFdE
import Derived.Test.YtkggmckfdkpldaaDoorFdF
import Derived.Test.YtkggmckfdkpldaaDoorFcV
import Derived.Test.YtkggmckfdkpldaaDoorFcY
namespace Go.Proofs.YtkggmckfdkpldaaDoor
open Go.RowKit

/-- A code that may be written: its operations in memory, its size. -/
structure Good (w : World) (x : CdF) (lv : Value) : Prop where
  ops : OpsV w (Lt w.heap.size) lv x.ops
  fits : x.fits
  size : (cdS x).length ≤ 1000000000
  few : x.ops.length ≤ 1000000000000
  lists : ∀ o ∈ x.ops, o.list.length ≤ 1000000000000
theorem Good.below {w w' : World} {x : CdF} {lv : Value} (h : Good w x lv) (hb : Below w.heap.size w w') : Good w' x lv := ⟨h.ops.now hb, h.fits, h.size, h.few, h.lists⟩
theorem good_of {w : World} {x : CdF} {lv : Value} {S : Nat → Prop} (ho : OpsV w S lv x.ops) (hS : ∀ b, S b → b < w.heap.size) (hb : CdBig x) : Good w x lv :=
  ⟨ho.more hS, hb.fits, Nat.le_trans (cd_small hb) (by decide), by have := hb.few; omega, fun o ho => by have := (hb.ops o ho).few; omega⟩
set_option maxHeartbeats 6400000 in
set_option maxRecDepth 100000 in
theorem codes_any (x : CdF) (ov : Value) (ts : List Int) (TA : Option Addr) (tc : Nat) (s : List UInt8) (w : World) (he : Env w) (hg : Good w x ov) (hts : Row w (Lt w.heap.size) TA (ts.map (Value.int .i64))) (htf : ∀ z ∈ ts, -9223372036854775808 ≤ z ∧ z ≤ 9223372036854775807) (hs : s.length ≤ 140737488355328) :
    Calls Tryd.prog 4 #[cdV x ov, .slice TA ts.length tc, sv s] w fun e w' => e = .returned (.bool true) ∧ Below w.heap.size w w' := by
  obtain ⟨A, c, us, hov, hus, hru⟩ := hg.ops
  subst hov
  obtain ⟨n, hn⟩ : ∃ n, n = us.length := ⟨_, rfl⟩
  have hn9 : n ≤ 1000000000000 := by have := hg.few; rw [← hus, List.length_map] at this; omega
  rw [← hn]
  obtain ⟨tn, htn⟩ : ∃ tn, tn = ts.length := ⟨_, rfl⟩
  rw [← htn]
  obtain ⟨wb, hwb⟩ : ∃ wb, wb = w.alloc (.cells #[.int .i64 x.params, .int .i64 x.regs, .slice A n c] 37) := ⟨_, rfl⟩
  have hbb : Below w.heap.size w wb := by rw [hwb]; exact (Below.refl _ _).alloc (Nat.le_refl _) _
  have hh : wb.heap[w.heap.size]? = some (.cells #[.int .i64 x.params, .int .i64 x.regs, .slice A n c] 37 (0, 0)) := by rw [hwb]; exact alloc1 _ _
  have q0 : wb.cell? ⟨w.heap.size, 0, none⟩ = some (iv x.params) := (Lib.cell_of_heap hh _).trans rfl
  have q1 : wb.cell? ⟨w.heap.size, 1, none⟩ = some (iv x.regs) := (Lib.cell_of_heap hh _).trans rfl
  have q2 : wb.cell? ⟨w.heap.size, 2, none⟩ = some (.slice A n c) := (Lib.cell_of_heap hh _).trans rfl
  have HLI := Lib.hid (light_any tn TA tc wb)
  have HAW := Lib.hid (awake_any wb (he.below hbb))
  have HBB := Lib.hid hbb
  have HH := Lib.hid hh
  have HG := Lib.hid (by rw [hn]; exact hg : Good w x (.slice A n c))
  have HE := Lib.hid he
  have HTN := Lib.hid htn
  have HTS := Lib.hid hts
  have HTF := Lib.hid htf
  have hsz := bs_size s
  clear hbb hh he hg hru hus hn htn hts htf
  by_cases h1 : tn ≤ 400
  · rw [decide_eq_true h1] at HLI
    by_cases h2 : s.length ≤ 2000
    · have hs2 : (bs s).size ≤ 2000 := by omega
      have HSL := Lib.hid h2
      clear hsz h2 hs
      by_cases h3 : n ≤ 40
      · go_enter Tryd.func4, Tryd.ntmps4
        go_wp2_with fail
        rw [← hwb]
        refine HLI.out.mono ?_
        rintro e w1 ⟨rfl, rfl⟩
        clear hwb HLI HAW
        go_wp2_with fail
        refine ((by rw [HTN.out]; exact roll_any ts TA tc wb ((HTS.out.keep (kept_below HBB.out)).more fun b hb => Nat.lt_of_lt_of_le hb HBB.out.size) (by rw [← HTN.out]; exact h1) HTF.out) : Calls Tryd.prog 7 #[.slice TA tn tc] wb fun e w' => e = .returned (.pointer (some ⟨wb.heap.size, 0, none⟩)) ∧ DiceAt w' wb.heap.size ts ∧ Below wb.heap.size wb w').mono ?_
        rintro e w2 ⟨rfl, hD2, hb2⟩
        obtain ⟨dd, hdd⟩ : ∃ dd, dd = wb.heap.size := ⟨_, rfl⟩
        rw [← hdd] at hD2 ⊢
        have HDD := Lib.hid hdd
        have HB2 := Lib.hid hb2
        have HD2 := Lib.hid hD2
        clear hdd hb2 hD2
        go_wp2_with fail
        refine (next_wide 1048576 dd ts w2 (by decide) (by decide) HD2.out).mono ?_
        rintro e w3 ⟨at_, hat, rfl, hD3, hk3⟩
        have HD3 := Lib.hid hD3
        have HK3 : Hid (Kp (fun y => y = dd) wb w3) := Lib.hid ((Kp.ofBelow HB2.out).trans hk3 fun _ _ e => e)
        have hdl : wb.heap.size ≤ dd := Nat.le_of_eq HDD.out.symm
        have hh3 := (HK3.out.heap HH.out (by have := lt_of_heap HH.out; omega))
        have g0 : w3.cell? ⟨w.heap.size, 0, none⟩ = some (iv x.params) := (Lib.cell_of_heap hh3 _).trans rfl
        have g1 : w3.cell? ⟨w.heap.size, 1, none⟩ = some (iv x.regs) := (Lib.cell_of_heap hh3 _).trans rfl
        have g2 : w3.cell? ⟨w.heap.size, 2, none⟩ = some (.slice A n c) := (Lib.cell_of_heap hh3 _).trans rfl
        have HH3 := Lib.hid hh3
        clear hD3 hk3 HD2 q0 q1 q2 hh3
        go_wp2_with fail
        refine wp_region_held' (fun u => u.cell? ⟨w.heap.size, 0, none⟩ = some (iv x.params) ∧ u.cell? ⟨w.heap.size, 1, none⟩ = some (iv x.regs) ∧ u.cell? ⟨w.heap.size, 2, none⟩ = some (.slice A n c)) [1, 2, 5, 6, 11] [0] [3, 4, 7, 8] [9, 10] (by kernel_rfl) (by kernel_rfl) ⟨g0, g1, g2⟩ ?ha
        case ha =>
        simp only [opsAt, List.filterMap_cons, List.filterMap_nil, List.getElem?_toArray, List.getElem?_cons_succ, List.getElem?_cons_zero]
        refine wpFloat_step ?vfa0 rfl (fun w' => ?yfa0) ?kfa0
        case yfa0 =>
          go_simp
          try rfl
        case kfa0 =>
        go_simp
        refine wpFloat_step ?vfa1 rfl (fun w' => ?yfa1) ?kfa1
        case yfa1 =>
          go_simp
          try rfl
        case kfa1 =>
        go_simp
        refine wpFloat_step ?vfa2 rfl (fun w' => ?yfa2) ?kfa2
        case yfa2 =>
          go_simp
          try rfl
        case kfa2 =>
        go_simp
        refine wpFloat_step ?vfa3 rfl (fun w' => ?yfa3) ?kfa3
        case yfa3 =>
          go_simp
          try rfl
        case kfa3 =>
        go_simp
        refine wpFloat_step ?vfa4 rfl (fun w' => ?yfa4) ?kfa4
        case yfa4 =>
          go_simp
          try rfl
        case kfa4 =>
        go_simp
        refine wpFloat_nil ?_
        refine wpLoad_step ?vaa0 rfl (fun w' hS => ?yaa0) ?kaa0
        case yaa0 =>
          obtain ⟨g0, g1, g2⟩ := hS
          go_simp
          try rfl
        case kaa0 =>
        go_simp
        refine wpLoad_nil ?_
        clear g0 g1 g2
        have hwd : w.heap.size ≠ dd := by have := lt_of_heap HH.out; omega
        refine wpKeep_step rfl ?_
        go_simp
        go_wp2_with fail
        refine (next_any 3 dd ts _ (by decide) (by decide) (HD3.out.below (Below.refl _ _).drew)).mono ?_
        rintro e w4 ⟨p4, hp4, rfl, hD4, hk4⟩
        have hk4 : Kp (fun y => y = dd) w3 w4 := (Kp.refl _ w3).drew.one hk4
        have hh4 := hk4.heap HH3.out hwd
        refine ⟨⟨(Lib.cell_of_heap hh4 _).trans rfl, (Lib.cell_of_heap hh4 _).trans rfl, (Lib.cell_of_heap hh4 _).trans rfl⟩, ?_⟩
        refine wpKeep_step rfl ?_
        go_simp
        go_wp2_with fail
        refine (madeCode_any p4 dd ts w4 (by omega) hD4).mono ?_
        rintro e w5 ⟨c5, v5, rfl, ho5, hc5, hD5, hk5⟩
        have hh5 := hk5.heap hh4 hwd
        refine ⟨⟨(Lib.cell_of_heap hh5 _).trans rfl, (Lib.cell_of_heap hh5 _).trans rfl, (Lib.cell_of_heap hh5 _).trans rfl⟩, ?_⟩
        refine wpKeep_step rfl ?_
        go_simp
        go_wp2_with fail
        refine (madeCode_any 1 dd ts w5 (by decide) hD5).mono ?_
        rintro e w6 ⟨c6, v6, rfl, ho6, hc6, hD6, hk6⟩
        have hh6 := hk6.heap hh5 hwd
        refine ⟨⟨(Lib.cell_of_heap hh6 _).trans rfl, (Lib.cell_of_heap hh6 _).trans rfl, (Lib.cell_of_heap hh6 _).trans rfl⟩, ?_⟩
        refine wpKeep_step rfl ?_
        go_simp
        go_wp2_with fail
        have hdl5 := hD5.lt
        refine (oddCode_any c6 v6 dd ts w6 hD6 hc6 (ho6.more fun b hb => ⟨hb.2, by have := hb.1; omega⟩)).mono ?_
        rintro e w7 ⟨c7, v7, rfl, ho7, hc7, hD7, hk7⟩
        have hh7 := hk7.heap hh6 hwd
        refine ⟨⟨(Lib.cell_of_heap hh7 _).trans rfl, (Lib.cell_of_heap hh7 _).trans rfl, (Lib.cell_of_heap hh7 _).trans rfl⟩, ?_⟩
        have hk47 : Kp (fun y => y = dd) w5 w7 := hk6.one hk7
        have hdl4 := hD4.lt
        have HG5 : Hid (Good w7 c5 v5) := Lib.hid (good_of (ho5.keep (hk47.kept fun b hb => ⟨hb.2, by have := hb.1; omega⟩)) (fun b hb => Nat.lt_of_lt_of_le hb.2 hk47.size) hc5.big)
        have HG7 : Hid (Good w7 c7 v7) := Lib.hid (good_of ho7 (fun b hb => hb.1) hc7)
        have HK37 : Hid (Kp (fun y => y = dd) wb w7) := Lib.hid ((((HK3.out.one hk4).one hk5).one hk6).one hk7)
        have HB7 : Hid (Below w.heap.size w w7) := Lib.hid (kpBelow HBB.out HK37.out (fun y e => by rw [e]; exact Nat.le_trans HBB.out.size hdl))
        have HG0 : Hid (Good w7 x (.slice A n c)) := Lib.hid (HG.out.below HB7.out)
        clear hk4 hk5 hk6 hk7 hh4 hh5 hh6 hh7 hD4 hD5 hD6 hD7 ho5 ho6 ho7 hc5 hc6 hc7 hk47 HG HH3 HD3 HK3
        refine wpKeep_nil ?_
        go_wp2
        refine NoPanic.normal ?_
        obtain ⟨w8, hw8⟩ : ∃ w8, w8 = w7.alloc (.cells #[iv x.params, iv x.regs, .slice A n c, iv c5.params, iv c5.regs, v5, iv c7.params, iv c7.regs, v7] 37) := ⟨_, rfl⟩
        rw [← hw8]
        have hb78 : Below w7.heap.size w7 w8 := by rw [hw8]; exact (Below.refl _ _).alloc (Nat.le_refl _) _
        have hh8 : w8.heap[w7.heap.size]? = some (.cells #[iv x.params, iv x.regs, .slice A n c, iv c5.params, iv c5.regs, v5, iv c7.params, iv c7.regs, v7] 37 (0, 0)) := by rw [hw8]; exact alloc1 _ _
        have hget : ∀ k : Nat, k < 3 → ∃ y v, Good w8 y v ∧ w8.cell? ⟨w7.heap.size, k * 3, none⟩ = some (iv y.params) ∧ w8.cell? ⟨w7.heap.size, k * 3 + 1, none⟩ = some (iv y.regs) ∧ w8.cell? ⟨w7.heap.size, k * 3 + 2, none⟩ = some v := by
          intro k hk
          obtain rfl | rfl | rfl : k = 0 ∨ k = 1 ∨ k = 2 := by omega
          · exact ⟨x, _, HG0.out.below hb78, (Lib.cell_of_heap hh8 _).trans rfl, (Lib.cell_of_heap hh8 _).trans rfl, (Lib.cell_of_heap hh8 _).trans rfl⟩
          · exact ⟨c5, v5, HG5.out.below hb78, (Lib.cell_of_heap hh8 _).trans rfl, (Lib.cell_of_heap hh8 _).trans rfl, (Lib.cell_of_heap hh8 _).trans rfl⟩
          · exact ⟨c7, v7, HG7.out.below hb78, (Lib.cell_of_heap hh8 _).trans rfl, (Lib.cell_of_heap hh8 _).trans rfl, (Lib.cell_of_heap hh8 _).trans rfl⟩
        have HGET := Lib.hid hget
        have HB8 : Hid (Below w.heap.size w w8) := Lib.hid (HB7.out.trans (hb78.mono HB7.out.size))
        clear hb78 hh8 hw8 hget HG0 HG5 HG7 HB7 HK37
        go_wp2_with fail
        go_loopg [52] 3 (fun g i wr => ∃ k : Nat, k ≤ 3 ∧ g = 3 - k ∧ i = .int .i64 k ∧ Below w8.heap.size w8 wr)
        case atStart => exact ⟨0, Nat.zero_le _, rfl, rfl, Below.refl _ _⟩
        case round =>
          obtain ⟨k, hk, rfl, rfl, hb⟩ := hrel
          by_cases hlt : k < 3
          · obtain ⟨y, v, hgood, e0, e1, e2⟩ := HGET.out k hlt
            have hbw : Below w.heap.size w wr := HB8.out.trans (hb.mono HB8.out.size)
            have hg2 := hgood.below hb
            have k0 : wr.cell? ⟨w7.heap.size, k * 3, none⟩ = some (iv y.params) := (hb.cell (block_lt_of_cell e0)).trans e0
            have k1 : wr.cell? ⟨w7.heap.size, k * 3 + 1, none⟩ = some (iv y.regs) := (hb.cell (block_lt_of_cell e1)).trans e1
            have k2 : wr.cell? ⟨w7.heap.size, k * 3 + 2, none⟩ = some v := (hb.cell (block_lt_of_cell e2)).trans e2
            obtain ⟨VA, vc, vs, rfl, hvs, hvr⟩ := hg2.ops
            obtain ⟨m, hm⟩ : ∃ m, m = vs.length := ⟨_, rfl⟩
            rw [← hm] at k2 hg2
            have HGR := Lib.hid hg2
            have HBR := Lib.hid hb
            have HBW := Lib.hid hbw
            have HEW := Lib.hid (HE.out.below hbw)
            have hik : (0 : Int) ≤ (k : Int) ∧ (k : Int) < 3 := ⟨by omega, by omega⟩
            clear e0 e1 e2 hgood hbw hg2 hvs hvr hm hb
            obtain ⟨wa, hwa⟩ : ∃ wa, wa = wr.alloc (.cells #[.int .i64 y.params, .int .i64 y.regs, .slice VA m vc] 37) := ⟨_, rfl⟩
            have hba : Below wr.heap.size wr wa := by rw [hwa]; exact (Below.refl _ _).alloc (Nat.le_refl _) _
            have hha : wa.heap[wr.heap.size]? = some (.cells #[iv y.params, iv y.regs, .slice VA m vc] 37 (0, 0)) := by rw [hwa]; exact alloc1 _ _
            have HHA := Lib.hid hha
            have HBA := Lib.hid hba
            obtain ⟨ps, hps⟩ : ∃ ps, ps = cdS y := ⟨_, rfl⟩
            have HPS := Lib.hid hps
            have hlen : ps.length ≤ 1000000000 := by rw [hps]; exact HGR.out.size
            have HC1 : Hid (Calls Tryd.prog 12 #[.agg #[.int .i64 y.params, .int .i64 y.regs, .slice VA m vc]] wa fun e w' => e = .returned (sv ps) ∧ Below wa.heap.size wa w') := Lib.hid (by rw [hps]; exact code_any y _ wa (HEW.out.below hba) ⟨_, rfl, HGR.out.ops.now hba⟩ HGR.out.fits HGR.out.size)
            clear hps hha hba
            go_wp2_with fail
            rw [← hwa]
            clear hwa k0 k1 k2 hik
            refine HC1.out.mono ?_
            rintro e w9 ⟨rfl, hb9⟩
            have HB9 := Lib.hid (HBA.out.trans (hb9.mono HBA.out.size))
            have HA9 := Lib.hid hb9
            clear hb9 HC1
            have HC2 := Lib.hid (readCode_any ps w9 (HEW.out.below HB9.out) hlen)
            unfold ReadCodeRes at HC2
            rw [HPS.out, cd_back HGR.out.fits, ← HPS.out] at HC2
            go_wp2_with fail
            refine HC2.out.mono ?_
            rintro e w10 ⟨lv, rfl, ⟨RA, rc, rs, rfl, hrs, hrr⟩, hb10⟩
            obtain ⟨rm, hrm⟩ : ∃ rm, rm = rs.length := ⟨_, rfl⟩
            have HOV : Hid (OpsV w10 (Lt w10.heap.size) (.slice RA rm rc) y.ops) := Lib.hid ⟨RA, rc, rs, by rw [hrm], hrs, hrr.more fun b hb => hb.2⟩
            rw [← hrm]
            have HB10 := Lib.hid (HB9.out.trans (hb10.mono HB9.out.size))
            have HA10 := Lib.hid (HA9.out.trans (hb10.mono HA9.out.size))
            clear hrs hrr hrm hb10 HC2
            obtain ⟨wc, hwc⟩ : ∃ wc, wc = w10.alloc (.cells #[.int .i64 y.params, .int .i64 y.regs, .slice RA rm rc] 37) := ⟨_, rfl⟩
            have hbc : Below w10.heap.size w10 wc := by rw [hwc]; exact (Below.refl _ _).alloc (Nat.le_refl _) _
            have HHC : Hid (wc.heap[w10.heap.size]? = some (.cells #[iv y.params, iv y.regs, .slice RA rm rc] 37 (0, 0))) := Lib.hid (by rw [hwc]; exact alloc1 _ _)
            have HBC := Lib.hid (HB10.out.trans (hbc.mono HB10.out.size))
            have HBCC := Lib.hid hbc
            have hat2 : at_ < 1099511627776 := by omega
            obtain ⟨zs, hzs⟩ : ∃ zs, zs = chg ps at_ := ⟨_, rfl⟩
            have hzl : zs.length ≤ 1000000000 := by rw [hzs, chg_len]; exact hlen
            have HCH : Hid (∀ u : World, Calls Tryd.prog 17 #[sv ps, .int .i64 (at_ : Int)] u fun e w' => e = .returned (sv zs) ∧ Below u.heap.size u w') := Lib.hid fun u => by rw [hzs]; exact changed_any ps at_ u hlen hat2
            clear hbc hzs
            go_wp2_with fail
            rw [← hwc]
            clear hwc
            refine (HCH.out wc).mono ?_
            rintro e w11 ⟨rfl, hb11⟩
            have HB11 := Lib.hid (HBC.out.trans (hb11.mono HBC.out.size))
            have HBC11 := Lib.hid hb11
            clear hb11
            obtain ⟨zc, hzc⟩ : ∃ zc, zc = (cdR zs).1 := ⟨_, rfl⟩
            obtain ⟨zb, hzb⟩ : ∃ zb, zb = (cdR zs).2 := ⟨_, rfl⟩
            have HZS : Hid (zc.ops.length ≤ 1000000000000 ∧ ∀ o ∈ zc.ops, o.list.length ≤ 1000000000000) := Lib.hid (by
              have h := cdR_small zs
              rw [← hzc] at h
              exact ⟨by have := h.1; omega, fun o ho => by have := h.2 o ho; omega⟩)
            have HRD : Hid (∀ u : World, Env u → Calls Tryd.prog 16 #[sv zs] u fun e w' => ∃ lv, e = .returned (.tuple #[cdV zc lv, .bool zb]) ∧ OpsV w' (Fr u.heap.size w'.heap.size) lv zc.ops ∧ Below u.heap.size u w') := Lib.hid fun u hu => by rw [hzc, hzb]; exact readCode_any zs u hu hzl
            have HRR : Hid (∀ u : World, Calls Tryd.prog 18 #[sv zs] u fun e w' => ∃ lv, e = .returned (.tuple #[cdV zc lv, .bool zb]) ∧ OpsV w' (Fr u.heap.size w'.heap.size) lv zc.ops ∧ Below u.heap.size u w') := Lib.hid fun u => by rw [hzc, hzb]; exact refReadCode_any zs u hzl
            clear hzc hzb
            go_wp2_with fail
            refine (HRD.out w11 (HEW.out.below HB11.out)).mono ?_
            rintro e w12 ⟨lv, rfl, ⟨SA, sc, ss, rfl, hss, hsr⟩, hb12⟩
            obtain ⟨sm, hsm⟩ : ∃ sm, sm = ss.length := ⟨_, rfl⟩
            have HOS : Hid (OpsV w12 (Lt w12.heap.size) (.slice SA sm sc) zc.ops) := Lib.hid ⟨SA, sc, ss, by rw [hsm], hss, hsr.more fun b hb => hb.2⟩
            rw [← hsm]
            have HB12 := Lib.hid (HB11.out.trans (hb12.mono HB11.out.size))
            have HBC12 := Lib.hid (HBC11.out.trans (hb12.mono HBC11.out.size))
            clear hss hsr hsm hb12
            obtain ⟨wd, hwd2⟩ : ∃ wd, wd = w12.alloc (.cells #[.int .i64 zc.params, .int .i64 zc.regs, .slice SA sm sc] 37) := ⟨_, rfl⟩
            have hbd : Below w12.heap.size w12 wd := by rw [hwd2]; exact (Below.refl _ _).alloc (Nat.le_refl _) _
            have HHD : Hid (wd.heap[w12.heap.size]? = some (.cells #[iv zc.params, iv zc.regs, .slice SA sm sc] 37 (0, 0))) := Lib.hid (by rw [hwd2]; exact alloc1 _ _)
            have HBD := Lib.hid (HB12.out.trans (hbd.mono HB12.out.size))
            have HBDD := Lib.hid hbd
            clear hbd
            go_wp2_with fail
            rw [← hwd2]
            clear hwd2
            refine (HCH.out wd).mono ?_
            rintro e w13 ⟨rfl, hb13⟩
            have HB13 := Lib.hid (HBD.out.trans (hb13.mono HBD.out.size))
            have HBD13 := Lib.hid hb13
            clear hb13
            go_wp2_with fail
            refine (HRR.out w13).mono ?_
            rintro e w14 ⟨lv, rfl, ⟨UA, uc, uu, rfl, huu, hur⟩, hb14⟩
            obtain ⟨um, hum⟩ : ∃ um, um = uu.length := ⟨_, rfl⟩
            have HOU : Hid (OpsV w14 (Lt w14.heap.size) (.slice UA um uc) zc.ops) := Lib.hid ⟨UA, uc, uu, by rw [hum], huu, hur.more fun b hb => hb.2⟩
            rw [← hum]
            have HB14 := Lib.hid (HB13.out.trans (hb14.mono HB13.out.size))
            have HBD14 := Lib.hid (HBD13.out.trans (hb14.mono HBD13.out.size))
            clear huu hur hum hb14
            obtain ⟨we, hwe⟩ : ∃ we, we = w14.alloc (.cells #[.int .i64 zc.params, .int .i64 zc.regs, .slice UA um uc] 37) := ⟨_, rfl⟩
            have hbe : Below w14.heap.size w14 we := by rw [hwe]; exact (Below.refl _ _).alloc (Nat.le_refl _) _
            have HHE : Hid (we.heap[w14.heap.size]? = some (.cells #[iv zc.params, iv zc.regs, .slice UA um uc] 37 (0, 0))) := Lib.hid (by rw [hwe]; exact alloc1 _ _)
            have HBE := Lib.hid (HB14.out.trans (hbe.mono HB14.out.size))
            have HBDE := Lib.hid (HBD14.out.trans (hbe.mono HBD14.out.size))
            have HBEE := Lib.hid hbe
            clear hbe
            go_upto_region 12 with fail
            rw [← hwe]
            clear hwe
            have hce : Below wc.heap.size wc we := HBC12.out.trans ((HBDD.out.trans (HBDE.out.mono HBDD.out.size)).mono HBC12.out.size)
            have hae : Below wa.heap.size wa we := HA10.out.trans ((HBCC.out.trans (hce.mono HBCC.out.size)).mono HA10.out.size)
            have HCE := Lib.hid hce
            have HAE := Lib.hid hae
            clear hce hae
            have ah : we.heap[wr.heap.size]? = some (.cells #[iv y.params, iv y.regs, .slice VA m vc] 37 (0, 0)) := (HAE.out.block _ (lt_of_heap HHA.out)).trans HHA.out
            have a0 : we.cell? ⟨wr.heap.size, 0, none⟩ = some (iv y.params) := (Lib.cell_of_heap ah _).trans rfl
            have a1 : we.cell? ⟨wr.heap.size, 1, none⟩ = some (iv y.regs) := (Lib.cell_of_heap ah _).trans rfl
            have a2 : we.cell? ⟨wr.heap.size, 2, none⟩ = some (.slice VA m vc) := (Lib.cell_of_heap ah _).trans rfl
            have HAH := Lib.hid ah
            have HRC : Hid (Calls Tryd.prog 19 #[.agg #[.int .i64 y.params, .int .i64 y.regs, .slice VA m vc]] we fun e w' => e = .returned (sv ps) ∧ Below we.heap.size we w') := Lib.hid (by rw [HPS.out]; exact refCode_any y _ we ⟨_, rfl, (HGR.out.ops.now HBE.out)⟩ HGR.out.fits HGR.out.size)
            clear ah
            go_wp2_with fail
            refine HRC.out.mono ?_
            rintro e w15 ⟨rfl, hb15⟩
            have HB15 := Lib.hid (HBE.out.trans (hb15.mono HBE.out.size))
            have HE15 := Lib.hid hb15
            clear hb15 a0 a1 a2 HRC
            have ah : w15.heap[wr.heap.size]? = some (.cells #[iv y.params, iv y.regs, .slice VA m vc] 37 (0, 0)) := (HE15.out.block _ (lt_of_heap HAH.out)).trans HAH.out
            have a0 : w15.cell? ⟨wr.heap.size, 0, none⟩ = some (iv y.params) := (Lib.cell_of_heap ah _).trans rfl
            have a1 : w15.cell? ⟨wr.heap.size, 1, none⟩ = some (iv y.regs) := (Lib.cell_of_heap ah _).trans rfl
            have a2 : w15.cell? ⟨wr.heap.size, 2, none⟩ = some (.slice VA m vc) := (Lib.cell_of_heap ah _).trans rfl
            have HCHH : Hid (we.heap[w10.heap.size]? = some (.cells #[iv y.params, iv y.regs, .slice RA rm rc] 37 (0, 0))) := Lib.hid ((HCE.out.block _ (lt_of_heap HHC.out)).trans HHC.out)
            have cch : w15.heap[w10.heap.size]? = some (.cells #[iv y.params, iv y.regs, .slice RA rm rc] 37 (0, 0)) := (HE15.out.block _ (lt_of_heap HCHH.out)).trans HCHH.out
            have cc0 : w15.cell? ⟨w10.heap.size, 0, none⟩ = some (iv y.params) := (Lib.cell_of_heap cch _).trans rfl
            have cc1 : w15.cell? ⟨w10.heap.size, 1, none⟩ = some (iv y.regs) := (Lib.cell_of_heap cch _).trans rfl
            have cc2 : w15.cell? ⟨w10.heap.size, 2, none⟩ = some (.slice RA rm rc) := (Lib.cell_of_heap cch _).trans rfl
            have h10e : Below w10.heap.size w10 w15 := (HBCC.out.trans (HCE.out.mono HBCC.out.size)).trans (HE15.out.mono (Nat.le_trans HBCC.out.size HCE.out.size))
            have HSC := Lib.hid (sameCode_any y y (.agg #[.int .i64 y.params, .int .i64 y.regs, .slice RA rm rc]) (.agg #[.int .i64 y.params, .int .i64 y.regs, .slice VA m vc]) w15 ⟨_, rfl, HOV.out.now h10e⟩ ⟨_, rfl, HGR.out.ops.now HB15.out⟩ HGR.out.few HGR.out.lists)
            clear ah cch h10e
            go_wp2_with fail
            refine HSC.out.mono ?_
            rintro e w16 ⟨rb, rfl, hrb, hb16⟩
            obtain rfl : rb = true := hrb.2 trivial
            have HE16 := Lib.hid (HE15.out.trans (hb16.mono HE15.out.size))
            have HB16 := Lib.hid (HB15.out.trans (hb16.mono HB15.out.size))
            clear hrb hb16 HSC a0 a1 a2 cc0 cc1 cc2
            have HDH : Hid (we.heap[w12.heap.size]? = some (.cells #[iv zc.params, iv zc.regs, .slice SA sm sc] 37 (0, 0))) := Lib.hid ((HBDE.out.block _ (lt_of_heap HHD.out)).trans HHD.out)
            have ah : w16.heap[w12.heap.size]? = some (.cells #[iv zc.params, iv zc.regs, .slice SA sm sc] 37 (0, 0)) := (HE16.out.block _ (lt_of_heap HDH.out)).trans HDH.out
            have a0 : w16.cell? ⟨w12.heap.size, 0, none⟩ = some (iv zc.params) := (Lib.cell_of_heap ah _).trans rfl
            have a1 : w16.cell? ⟨w12.heap.size, 1, none⟩ = some (iv zc.regs) := (Lib.cell_of_heap ah _).trans rfl
            have a2 : w16.cell? ⟨w12.heap.size, 2, none⟩ = some (.slice SA sm sc) := (Lib.cell_of_heap ah _).trans rfl
            have bh : w16.heap[w14.heap.size]? = some (.cells #[iv zc.params, iv zc.regs, .slice UA um uc] 37 (0, 0)) := (HE16.out.block _ (lt_of_heap HHE.out)).trans HHE.out
            have b0 : w16.cell? ⟨w14.heap.size, 0, none⟩ = some (iv zc.params) := (Lib.cell_of_heap bh _).trans rfl
            have b1 : w16.cell? ⟨w14.heap.size, 1, none⟩ = some (iv zc.regs) := (Lib.cell_of_heap bh _).trans rfl
            have b2 : w16.cell? ⟨w14.heap.size, 2, none⟩ = some (.slice UA um uc) := (Lib.cell_of_heap bh _).trans rfl
            have h12e : Below w12.heap.size w12 w16 := (HBDD.out.trans (HBDE.out.mono HBDD.out.size)).trans (HE16.out.mono (Nat.le_trans HBDD.out.size HBDE.out.size))
            have h14e : Below w14.heap.size w14 w16 := HBEE.out.trans (HE16.out.mono HBEE.out.size)
            have HSC := Lib.hid (sameCode_any zc zc (.agg #[.int .i64 zc.params, .int .i64 zc.regs, .slice SA sm sc]) (.agg #[.int .i64 zc.params, .int .i64 zc.regs, .slice UA um uc]) w16 ⟨_, rfl, HOS.out.now h12e⟩ ⟨_, rfl, HOU.out.now h14e⟩ HZS.out.1 HZS.out.2)
            clear ah bh h12e h14e
            go_wp2_with fail
            refine HSC.out.mono ?_
            rintro e w17 ⟨rb, rfl, hrb, hb17⟩
            obtain rfl : rb = true := hrb.2 trivial
            have HB17 := Lib.hid (HBR.out.trans ((HB16.out.trans (hb17.mono HB16.out.size)).mono HBR.out.size))
            clear hrb hb17 HSC a0 a1 a2 b0 b1 b2
            go_wp2
            go_roundg (3 - (k + 1))
            case measure => omega
            case rel => exact ⟨k + 1, by omega, rfl, by go_num, HB17.out⟩
          · obtain rfl : k = 3 := by omega
            have hbw : Below w.heap.size w wr := HB8.out.trans (hb.mono HB8.out.size)
            have HBW := Lib.hid hbw
            have hsl : s.length ≤ 1000000000 := by have := HSL.out; omega
            have HEW := Lib.hid (HE.out.below hbw)
            obtain ⟨zc, hzc⟩ : ∃ zc, zc = (cdR s).1 := ⟨_, rfl⟩
            obtain ⟨zb, hzb⟩ : ∃ zb, zb = (cdR s).2 := ⟨_, rfl⟩
            have HZS : Hid (zc.ops.length ≤ 1000000000000 ∧ ∀ o ∈ zc.ops, o.list.length ≤ 1000000000000) := Lib.hid (by
              have h := cdR_small s
              rw [← hzc] at h
              exact ⟨by have := h.1; omega, fun o ho => by have := h.2 o ho; omega⟩)
            have HRD : Hid (∀ u : World, Env u → Calls Tryd.prog 16 #[sv s] u fun e w' => ∃ lv, e = .returned (.tuple #[cdV zc lv, .bool zb]) ∧ OpsV w' (Fr u.heap.size w'.heap.size) lv zc.ops ∧ Below u.heap.size u w') := Lib.hid fun u hu => by rw [hzc, hzb]; exact readCode_any s u hu hsl
            have HRR : Hid (∀ u : World, Calls Tryd.prog 18 #[sv s] u fun e w' => ∃ lv, e = .returned (.tuple #[cdV zc lv, .bool zb]) ∧ OpsV w' (Fr u.heap.size w'.heap.size) lv zc.ops ∧ Below u.heap.size u w') := Lib.hid fun u => by rw [hzc, hzb]; exact refReadCode_any s u hsl
            clear hzc hzb hb hbw hsl
            go_wp2_with fail
            refine (HRD.out wr HEW.out).mono ?_
            rintro e w12 ⟨lv, rfl, ⟨SA, sc, ss, rfl, hss, hsr⟩, hb12⟩
            obtain ⟨sm, hsm⟩ : ∃ sm, sm = ss.length := ⟨_, rfl⟩
            have HOS : Hid (OpsV w12 (Lt w12.heap.size) (.slice SA sm sc) zc.ops) := Lib.hid ⟨SA, sc, ss, by rw [hsm], hss, hsr.more fun b hb => hb.2⟩
            rw [← hsm]
            have HB12 := Lib.hid hb12
            clear hss hsr hsm hb12
            obtain ⟨wd, hwd2⟩ : ∃ wd, wd = w12.alloc (.cells #[.int .i64 zc.params, .int .i64 zc.regs, .slice SA sm sc] 37) := ⟨_, rfl⟩
            have hbd : Below w12.heap.size w12 wd := by rw [hwd2]; exact (Below.refl _ _).alloc (Nat.le_refl _) _
            have HHD : Hid (wd.heap[w12.heap.size]? = some (.cells #[iv zc.params, iv zc.regs, .slice SA sm sc] 37 (0, 0))) := Lib.hid (by rw [hwd2]; exact alloc1 _ _)
            have HBD := Lib.hid (HB12.out.trans (hbd.mono HB12.out.size))
            have HBDD := Lib.hid hbd
            clear hbd
            go_wp2_with fail
            rw [← hwd2]
            clear hwd2
            refine (HRR.out wd).mono ?_
            rintro e w14 ⟨lv, rfl, ⟨UA, uc, uu, rfl, huu, hur⟩, hb14⟩
            obtain ⟨um, hum⟩ : ∃ um, um = uu.length := ⟨_, rfl⟩
            have HOU : Hid (OpsV w14 (Lt w14.heap.size) (.slice UA um uc) zc.ops) := Lib.hid ⟨UA, uc, uu, by rw [hum], huu, hur.more fun b hb => hb.2⟩
            rw [← hum]
            have HB14 := Lib.hid (HBD.out.trans (hb14.mono HBD.out.size))
            have HBD14 := Lib.hid hb14
            clear huu hur hum hb14
            obtain ⟨we, hwe⟩ : ∃ we, we = w14.alloc (.cells #[.int .i64 zc.params, .int .i64 zc.regs, .slice UA um uc] 37) := ⟨_, rfl⟩
            have hbe : Below w14.heap.size w14 we := by rw [hwe]; exact (Below.refl _ _).alloc (Nat.le_refl _) _
            have HHE : Hid (we.heap[w14.heap.size]? = some (.cells #[iv zc.params, iv zc.regs, .slice UA um uc] 37 (0, 0))) := Lib.hid (by rw [hwe]; exact alloc1 _ _)
            have HBE := Lib.hid (HB14.out.trans (hbe.mono HB14.out.size))
            have HBDE := Lib.hid (HBD14.out.trans (hbe.mono HBD14.out.size))
            have HBEE := Lib.hid hbe
            clear hbe
            go_upto_region 17 with fail
            rw [← hwe]
            clear hwe
            have HAW := Lib.hid (awake_any we (HEW.out.below HBE.out))
            go_wp2_with fail
            refine HAW.out.mono ?_
            rintro e w16 ⟨rfl, hb16⟩
            have HE16 := Lib.hid hb16
            have HB16 := Lib.hid (HBE.out.trans (hb16.mono HBE.out.size))
            clear hb16 HAW
            have HDH : Hid (we.heap[w12.heap.size]? = some (.cells #[iv zc.params, iv zc.regs, .slice SA sm sc] 37 (0, 0))) := Lib.hid ((HBDE.out.block _ (lt_of_heap HHD.out)).trans HHD.out)
            have ah : w16.heap[w12.heap.size]? = some (.cells #[iv zc.params, iv zc.regs, .slice SA sm sc] 37 (0, 0)) := (HE16.out.block _ (lt_of_heap HDH.out)).trans HDH.out
            have a0 : w16.cell? ⟨w12.heap.size, 0, none⟩ = some (iv zc.params) := (Lib.cell_of_heap ah _).trans rfl
            have a1 : w16.cell? ⟨w12.heap.size, 1, none⟩ = some (iv zc.regs) := (Lib.cell_of_heap ah _).trans rfl
            have a2 : w16.cell? ⟨w12.heap.size, 2, none⟩ = some (.slice SA sm sc) := (Lib.cell_of_heap ah _).trans rfl
            have bh : w16.heap[w14.heap.size]? = some (.cells #[iv zc.params, iv zc.regs, .slice UA um uc] 37 (0, 0)) := (HE16.out.block _ (lt_of_heap HHE.out)).trans HHE.out
            have b0 : w16.cell? ⟨w14.heap.size, 0, none⟩ = some (iv zc.params) := (Lib.cell_of_heap bh _).trans rfl
            have b1 : w16.cell? ⟨w14.heap.size, 1, none⟩ = some (iv zc.regs) := (Lib.cell_of_heap bh _).trans rfl
            have b2 : w16.cell? ⟨w14.heap.size, 2, none⟩ = some (.slice UA um uc) := (Lib.cell_of_heap bh _).trans rfl
            have h12e : Below w12.heap.size w12 w16 := (HBDD.out.trans (HBDE.out.mono HBDD.out.size)).trans (HE16.out.mono (Nat.le_trans HBDD.out.size HBDE.out.size))
            have h14e : Below w14.heap.size w14 w16 := HBEE.out.trans (HE16.out.mono HBEE.out.size)
            have HSC := Lib.hid (sameCode_any zc zc (.agg #[.int .i64 zc.params, .int .i64 zc.regs, .slice SA sm sc]) (.agg #[.int .i64 zc.params, .int .i64 zc.regs, .slice UA um uc]) w16 ⟨_, rfl, HOS.out.now h12e⟩ ⟨_, rfl, HOU.out.now h14e⟩ HZS.out.1 HZS.out.2)
            clear ah bh h12e h14e
            go_wp2_with fail
            refine HSC.out.mono ?_
            rintro e w17 ⟨rb, rfl, hrb, hb17⟩
            obtain rfl : rb = true := hrb.2 trivial
            have HR := Lib.hid (HBW.out.trans ((HB16.out.trans (hb17.mono HB16.out.size)).mono HBW.out.size))
            clear hrb hb17 HSC a0 a1 a2 b0 b1 b2
            go_wp2
            go_ret
            exact ⟨rfl, HR.out⟩
      · have h4 : (40 : Int) < (n : Int) := by omega
        have hs3 : ((bs s).size : Int) ≤ 2000 := by omega
        have h5 : decide ((2000 : Int) < ((bs s).size : Int)) = false := by simp; omega
        have h6 : decide ((40 : Int) < (n : Int)) = true := by simp; omega
        clear h3
        go_enter Tryd.func4, Tryd.ntmps4
        go_wp2_with fail
        rw [← hwb]
        refine HLI.out.mono ?_
        rintro e w1 ⟨rfl, rfl⟩
        clear hwb
        go_wp2_with fail
        refine HAW.out.mono ?_
        rintro e w2 ⟨rfl, hb⟩
        have HR := Lib.hid (HBB.out.trans (hb.mono HBB.out.size))
        clear hb
        go_wp2
        go_ret
        exact ⟨rfl, HR.out⟩
    · have hs2 : (2000 : Int) < ((bs s).size : Int) := by omega
      have h5 : decide ((2000 : Int) < ((bs s).size : Int)) = true := by simp; omega
      clear hsz h2 hs
      go_enter Tryd.func4, Tryd.ntmps4
      go_wp2_with fail
      rw [← hwb]
      refine HLI.out.mono ?_
      rintro e w1 ⟨rfl, rfl⟩
      clear hwb
      go_wp2_with fail
      refine HAW.out.mono ?_
      rintro e w2 ⟨rfl, hb⟩
      have HR := Lib.hid (HBB.out.trans (hb.mono HBB.out.size))
      clear hb
      go_wp2
      go_ret
      exact ⟨rfl, HR.out⟩
  · rw [decide_eq_false h1] at HLI
    clear hsz
    go_enter Tryd.func4, Tryd.ntmps4
    go_wp2_with fail
    rw [← hwb]
    refine HLI.out.mono ?_
    rintro e w1 ⟨rfl, rfl⟩
    clear hwb
    go_wp2_with fail
    refine HAW.out.mono ?_
    rintro e w2 ⟨rfl, hb⟩
    have HR := Lib.hid (HBB.out.trans (hb.mono HBB.out.size))
    clear hb
    go_wp2
    go_ret
    exact ⟨rfl, HR.out⟩
end Go.Proofs.YtkggmckfdkpldaaDoor
