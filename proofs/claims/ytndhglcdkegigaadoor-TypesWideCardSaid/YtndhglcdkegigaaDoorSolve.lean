/-
  The walk of types.Solve.
  Conditions: types lie in plain blocks; names are not empty, and no variable's or that of a variable below 100; there are at most 1000 equations and 2000 types.
-/
import Derived.Test.YtndhglcdkegigaaDoorOutL
namespace Go.Proofs.YtndhglcdkegigaaDoor
open Go.RowKit

set_option maxHeartbeats 16000000 in
set_option maxRecDepth 100000 in
theorem solve_any (B : Nat) (S : Nat → Prop) (Q : Ty → Prop) (hQ : DownN Q) (U : List Addr) (hU : U.length ≤ 2000) (E : List (Ty × Ty)) (A : Option Addr) (c : Nat) (w : World) (hpl : Plb w B S) (hB : B ≤ w.heap.size) (hun : Univ w S Q U)
    (hE : Eqs w S U A E) (hlen : E.length ≤ 1000) : Calls Tryd.prog 22 #[.slice A E.length c] w (SolRes Q E w) := by
  obtain ⟨n, hn⟩ : ∃ n, n = E.length := ⟨_, rfl⟩
  rw [← hn] at hlen ⊢
  have HN := Lib.hid hn
  clear hn
  go_enter Tryd.func22, Tryd.ntmps22
  go_wp2_with fail
  refine (new_any B S Q U w hpl hB hun).mono ?_
  rintro e w1 ⟨d0, rfl, hr0, hG0, hAG0, hb1, hnew0⟩
  go_wp2_with fail
  go_loopw [5, 15] (fun dv i wr => ∃ (k : Nat) (rs : List Bool) (d : SD), k ≤ n ∧ i = .int .i64 k ∧ d.sb = d0.sb ∧ SolAt w B S Q U E k rs d dv wr) (fun _ i _ => n - (intOf i).toNat)
  case atStart =>
    refine ⟨0, [], d0, Nat.zero_le _, rfl, rfl, ?_, hr0, hnew0, hb1, fun _ => ⟨fun x hx => ?_, fun i x hx => ?_⟩, World.ownsRow_nil _ _ _ _, fun y hy => by cases hy⟩
    · rw [hG0]; exact .nil
    · rw [hAG0] at hx; cases hx
    · simp at hx
  case round =>
    obtain ⟨k, rs, d, hk, rfl, hsb, hat⟩ := hrel
    have hrs : rs.length ≤ n := by have := hat.chain.len; rw [List.length_take] at this; omega
    obtain ⟨DA, dc, rfl⟩ := row_shape hat.drop
    by_cases hlt : k < n
    · have hki : k < E.length := by rw [← HN.out]; exact hlt
      obtain ⟨x, hx⟩ : ∃ x, E[k]? = some x := ⟨_, List.getElem?_eq_getElem hki⟩
      obtain ⟨ad, rfl, hpa, hpb, hua, hub⟩ := hE.at_ k x hx
      obtain ⟨ρ, hr⟩ := hat.chain.rank
      have hpre := hat.pre (w' := wr.drew) (Below.refl _ _).drew
      have hkt : Kept S w wr := hpl.kept (hat.below.mono hB)
      have EQ := Lib.hid (equal_any B S Q hQ U hU d ρ x.1 x.2 _ _ wr.drew hpre.rest hr (hpa.keep hkt) (hpb.keep hkt) hua hub)
      rw [hsb] at EQ
      have HAT := Lib.hid hpre
      have HX := Lib.hid hx
      clear hat hpre hx hpa hpb hua hub hkt hr
      have hik : (0 : Int) ≤ (k : Int) ∧ (k : Int) < (n : Int) := ⟨by omega, by omega⟩
      go_wp2_with fail
      refine wp_region_held' (fun _ => True) [] [0, 1, 2, 3, 4, 5, 6, 7, 8] [9] [10] (by kernel_rfl) (by kernel_rfl) ?sa ?ha
      case sa => exact trivial
      case ha =>
      simp only [opsAt, List.filterMap_cons, List.filterMap_nil, List.getElem?_toArray, List.getElem?_cons_succ, List.getElem?_cons_zero]
      refine wpFloat_nil ?_
      refine wpLoad_step ?va0 rfl (fun w' hS => ?ya0) ?ka0
      case ya0 =>
        skip
        go_simp
        try rfl
      case ka0 =>
      go_simp
      refine wpLoad_step ?va1 rfl (fun w' hS => ?ya1) ?ka1
      case ya1 =>
        skip
        go_simp
        try rfl
      case ka1 =>
      go_simp
      refine wpLoad_step ?va2 rfl (fun w' hS => ?ya2) ?ka2
      case ya2 =>
        skip
        go_simp
        try rfl
      case ka2 =>
      go_simp
      refine wpLoad_step ?va3 rfl (fun w' hS => ?ya3) ?ka3
      case ya3 =>
        skip
        go_simp
        try rfl
      case ka3 =>
      go_simp
      refine wpLoad_step ?va4 rfl (fun w' hS => ?ya4) ?ka4
      case ya4 =>
        skip
        go_simp
        try rfl
      case ka4 =>
      go_simp
      refine wpLoad_step ?va5 rfl (fun w' hS => ?ya5) ?ka5
      case ya5 =>
        skip
        go_simp
        try rfl
      case ka5 =>
      go_simp
      refine wpLoad_step ?va6 rfl (fun w' hS => ?ya6) ?ka6
      case ya6 =>
        skip
        go_simp
        try rfl
      case ka6 =>
      go_simp
      refine wpLoad_step ?va7 rfl (fun w' hS => ?ya7) ?ka7
      case ya7 =>
        skip
        go_simp
        try rfl
      case ka7 =>
      go_simp
      refine wpLoad_step ?va8 rfl (fun w' hS => ?ya8) ?ka8
      case ya8 =>
        skip
        go_simp
        try rfl
      case ka8 =>
      go_simp
      refine wpLoad_nil ?_
      refine wpKeep_step rfl ?_
      go_simp
      refine EQ.out.mono ?_
      rintro e w2 ⟨r, d', rfl, heq⟩
      have hst := HAT.out.step HX.out heq
      have hsb' : d'.sb = d0.sb := heq.next.sb.trans hsb
      have HST := Lib.hid hst
      clear hst heq
      refine wpKeep_nil ?_
      cases r with
      | true =>
        go_wp2
        refine NoPanic.normal ?_
        go_wp2
        go_roundw
        case rel =>
          obtain ⟨s1, s2, s3, s4, s5, s6, s7⟩ := HST.out
          have e : drops (rs ++ [true]) 0 = drops rs 0 := by rw [drops_snoc]; simp
          exact ⟨k + 1, rs ++ [true], d', by omega, by go_num, hsb', s1, s2, s3, s4, s5, by rw [e]; exact s6, s7⟩
        case measure => simp [intOf]; omega
      | false =>
        obtain ⟨s1, s2, s3, s4, s5, s6, s7⟩ := HST.out
        have hdl := drops_len rs 0
        obtain ⟨m, hm⟩ : ∃ m, m = (drops rs 0).length := ⟨_, rfl⟩
        rw [← hm] at s6 hdl
        have HM := Lib.hid hm
        have HS5 := Lib.hid s5
        have hsz2 := s4.size
        have hown := s6.alloc (.cells #[.int .i64 (k : Int)] 3)
        generalize hxs : ((drops rs 0).map fun n : Nat => Value.int .i64 (n : Int)) = xs at hown
        have HXS := Lib.hid hxs
        clear hm hxs s5
        obtain ⟨i0, hi0, hz0, hz1, hz2⟩ := info_parts infoI
        go_wp2
        refine NoPanic.normal ?_
        rw [← HM.out]
        go_wp2_with (at_builtin; refine wpList_append_lies _ rfl _ _ 22 rfl w.heap.size 3 i0 _ 1 8 Tryd.underlying22 hi0 hz0 hz1 hz2 rfl (by omega) _ m xs rfl hown ⟨w2.heap.size, 0, none⟩ 1 1 [.int .i64 (k : Int)] rfl rfl ?c1 ?c2 (by omega) ?c3 ?c4 ?c5 _ rfl ?_)
        case c1 => exact World.news_of_block (cs := #[.int .i64 (k : Int)]) (alloc1 w2 _)
        case c2 => simp [Value.oneCell']
        case c3 => unfold maxLen; omega
        case c4 => omega
        case c5 => simp; omega
        intro ga cap w3 hown3 hgrow hat _
        have hkl : rs.length = k := by have := HAT.out.chain.len; rw [List.length_take, ← HN.out] at this; omega
        have hnx := SolAt.dropped (o := .cells #[.int .i64 (k : Int)] 3) hB hkl s1 s2 s3 s4 HS5.out (by rw [← HXS.out] at *; exact s6) (by rw [HM.out]; exact s7) HM.out HXS.out hown3 hgrow (by simpa using hat)
        have HNX := Lib.hid hnx
        clear hnx hown hown3 hgrow hat s1 s2 s3 s6 s7
        go_wp2
        go_roundw
        case rel => exact ⟨k + 1, rs ++ [false], d', by omega, by go_num, hsb', HNX.out⟩
        case measure => simp [intOf]; omega
    · obtain rfl : k = n := by omega
      obtain ⟨wa, rfl⟩ : ∃ wa, wa = wr := ⟨_, rfl⟩
      have htk : E.take k = E := by rw [HN.out, List.take_length]
      obtain ⟨wb, hrg, hra, hbb⟩ := run_range_start (P := Tryd.prog) hat.rest.sv.given Tryd.underlying80
      have c0 : wa.cell? ⟨d0.sb, 0, none⟩ = some (.map (some d.gb)) := by rw [← hsb]; exact (Lib.cell_of_heap hat.rest.sv.cells _).trans rfl
      have c1 : wb.cell? ⟨d0.sb, 0, none⟩ = some (.map (some d.gb)) := by rw [← hsb]; exact (Lib.cell_of_heap ((hbb.block _ (lt_of_heap hat.rest.sv.cells)).trans hat.rest.sv.cells) _).trans rfl
      have hgu := hat.rest.gu
      have HAT := Lib.hid hat
      have HRA := Lib.hid hra
      have HBB := Lib.hid hbb
      have HTK := Lib.hid htk
      have HGU := Lib.hid hgu
      clear hat hra hbb htk hgu
      go_wp2_with fail
      go_loopw [7] (fun mv wx => ∃ (L : Nat) (done : List (Value × Value)), mv = .int .i64 ((L : Int) - 1) ∧ L ≤ 100 ∧ RangeAt wx d.gb wa.heap.size (d.G.map givenV) done ∧ Kp (fun y => y = wa.heap.size) wb wx ∧ (∀ g ∈ d.G, givenV g ∈ done → g.1 < L) ∧ (L = 0 ∨ ∃ g ∈ d.G, L = g.1 + 1)) (fun _ wx => rangeLeft wx d.gb wa.heap.size)
      case atStart => exact ⟨0, [], rfl, by omega, HRA.out, Kp.refl _ _, (fun g _ h => by cases h), .inl rfl⟩
      case round =>
        obtain ⟨L, done, rfl, hL1, hrr, hkr, hlt1, hlt2⟩ := hrel
        rcases run_range_next (P := Tryd.prog) hrr 0 with ⟨hall, hrun⟩ | ⟨kv, vv, wn, hmem, hrun, hrn, hkn, hless, hent⟩
        · have hLG : L = solLen d.G := solLen_eq (fun g hg => hlt1 g hg (hall _ (List.mem_map_of_mem hg))) hlt2
          obtain ⟨wc, rfl⟩ : ∃ wc, wc = wr := ⟨_, rfl⟩
          have hbc : Below wa.heap.size wa wc := HBB.out.trans ⟨hkr.os, hkr.tape, hkr.output, hkr.size, fun y hy => hkr.block y (Nat.lt_of_lt_of_le hy HBB.out.size) (by omega)⟩
          have hatc := HAT.out.pre hbc
          have hnx : ∀ ty, (Instr.next (.pointer (some ⟨wa.heap.size, 0, none⟩)) false ty).run Tryd.prog wc = _ := fun _ => hrun
          obtain ⟨i0, hi0, hz0, hz1, hz2⟩ := info_parts infoT
          obtain ⟨wd, hmk, hown, hgr⟩ := run_make_full (P := Tryd.prog) wc w.heap.size 28 30 i0 _ 2 Tryd.underlying28 hi0 hz0 hz1 .i64 .i64 L (by rw [hz2]; omega) (by unfold maxLen; omega) hatc.below.size
          have hbd : Below wc.heap.size wc wd := ⟨hgr.os, hgr.tape, hgr.output, hgr.size, fun y hy => hgr.block y hy (by simp)⟩
          have hatd := hatc.pre hbd
          have c1d : wd.cell? ⟨d0.sb, 0, none⟩ = some (.map (some d.gb)) := by rw [← hsb]; exact (Lib.cell_of_heap hatd.rest.sv.cells _).trans rfl
          obtain ⟨we, hrg2, hra2, hbe⟩ := run_range_start (P := Tryd.prog) hatd.rest.sv.given Tryd.underlying80
          have hate := hatd.pre hbe
          have hnn : (0 : Int) ≤ (L : Int) ∧ (L : Int) ≤ 100 := ⟨by omega, by omega⟩
          have HATE := Lib.hid hate
          have HRA2 := Lib.hid hra2
          have HOWN := Lib.hid hown
          have HBC := Lib.hid hbc
          have HBD := Lib.hid hbd
          have HBE := Lib.hid hbe
          have HLG := Lib.hid hLG
          clear hate hatd hatc hra2 hown hbc hbd hbe hLG hlt1 hlt2 hall hrr hkr hrun hgr
          have hgr : wc.heap.size ≠ wd.heap.size := by have := (HOWN.out.lt wc.heap.size rfl).2; omega
          have hst : OutL w.heap.size wc.heap.size wd.heap.size L d.G [] (List.replicate L (.string ⟨#[]⟩, .slice none 0 0)) we := OutL.start (by
            rw [← flat2_zero]
            exact HOWN.out.kept (grownOfBelow HBE.out) (ownNone _))
          have HST := Lib.hid hst
          clear hst
          go_wp2_with fail
          go_loopw [10] (fun _ wx => ∃ (done vs : List (Value × Value)), RangeAt wx d.gb wd.heap.size (d.G.map givenV) done ∧ OutL w.heap.size wc.heap.size wd.heap.size L d.G done vs wx ∧ Kp (fun y => y = wc.heap.size ∨ y = wd.heap.size) we wx) (fun _ wx => rangeLeft wx d.gb wd.heap.size)
          case atStart => exact ⟨[], _, HRA2.out, HST.out, Kp.refl _ _⟩
          case round =>
            obtain ⟨done2, vs, hrr2, hol, hkx⟩ := hrel
            rcases run_range_next (P := Tryd.prog) hrr2 0 with ⟨hall2, hrun2⟩ | ⟨kv2, vv2, wn, hmem2, hrun2, hrn2, hkn2, hless2, hent2⟩
            · have hnx2 : ∀ ty, (Instr.next (.pointer (some ⟨wd.heap.size, 0, none⟩)) false ty).run Tryd.prog wr = _ := fun _ => hrun2
              have HOL := Lib.hid hol
              have HALL := Lib.hid hall2
              have HKX := Lib.hid hkx
              have HRR := Lib.hid hrr2
              clear hol hall2 hkx hrr2
              go_wp2
              refine bodyPost_ret (v := .tuple #[.slice (some ⟨wc.heap.size, 0, none⟩) L L, .slice DA (drops rs 0).length dc]) (by simp [results, Tryd.results22, go_sem]) rfl ?_
              obtain rfl := HLG.out
              have hate := HATE.out
              have hwsz := hate.below.size
              have hwcd : w.heap.size ≤ wc.heap.size ∧ wc.heap.size < wd.heap.size := ⟨(HOWN.out.lt wc.heap.size rfl).1, (HOWN.out.lt wc.heap.size rfl).2⟩
              have hkx := HKX.out
              have hbw : Below w.heap.size w wr := hate.below.trans ⟨hkx.os, hkx.tape, hkx.output, hkx.size, fun y hy => hkx.block y (Nat.lt_of_lt_of_le hy hwsz) (by omega)⟩
              have hdr := hkx.own hate.drop (fun y hy e => by
                have h1 := (HAT.out.drop.lt y hy).2
                have h2 := HBC.out.size
                omega)
              have hch := hate.chain
              have hsd := hate.sound
              rw [HTK.out] at hch hsd
              exact ⟨rs, d.G, some ⟨wc.heap.size, 0, none⟩, DA, _, dc, vs, rfl, hch, (HOL.out.done (given_nodup hate.rest.sv.given) fun e he => HALL.out _ (List.mem_map_of_mem he)), Nat.le_refl _, by unfold maxLen; omega, Row.ofOwn hdr fun y _ h1 h2 => ⟨h1, h2⟩, hbw, fun e he => ⟨(HGU.out e he).1, (HGU.out e he).2.1⟩, fun hc => (hsd hc).2⟩
            · obtain ⟨g, hg, hgv⟩ := List.mem_map.1 hmem2
              obtain ⟨rfl, rfl⟩ := Prod.mk.inj hgv
              have hg100 := (HGU.out g hg).2.1
              have hgL : g.1 < L := by rw [HLG.out]; exact solLen_le _ g hg
              have hik : (0 : Int) ≤ (g.1 : Int) ∧ (g.1 : Int) < (L : Int) := ⟨by omega, by omega⟩
              have hnx2 : ∀ ty, (Instr.next (.pointer (some ⟨wd.heap.size, 0, none⟩)) false ty).run Tryd.prog wr = _ := fun _ => hrun2
              have hwsz := HATE.out.below.size
              have hkxn : Kp (fun y => y = wc.heap.size ∨ y = wd.heap.size) we wn := hkx.trans hkn2 fun _ _ e => .inr e
              have hwcd : w.heap.size ≤ wc.heap.size ∧ wc.heap.size < wd.heap.size := ⟨(HOWN.out.lt wc.heap.size rfl).1, (HOWN.out.lt wc.heap.size rfl).2⟩
              have hSn : Kept S we wn := hkxn.kept fun b hS => ⟨Nat.lt_of_lt_of_le (hpl.lt b hS) HATE.out.rest.hB, fun e => by have := hpl.lt b hS; omega⟩
              obtain ⟨u, v, hS, e0, e1, hty⟩ := ((HATE.out.rest.sv.gty g hg).keep hSn).ex
              obtain ⟨u, v, rfl, rfl⟩ := hty.shape
              have hwn : we.heap.size ≤ wn.heap.size := hkxn.size
              have hol2 := hol.kp hkn2 hgr
              have HCP := Lib.hid (copied_any g.2.2 _ _ wn (hty.more fun y hy => Nat.lt_of_lt_of_le (hpl.lt y hy) (Nat.le_trans HATE.out.rest.hB hwn)))
              have HOL := Lib.hid hol2
              have HKX := Lib.hid hkxn
              have HRN := Lib.hid hrn2
              have HLESS := Lib.hid hless2
              have HGV := Lib.hid hgv
              clear hol hol2 hkx hkxn hrn2 hless2 hty hrr2 hSn hkn2 hgv
              go_wp2_with fail
              refine HCP.out.mono ?_
              rintro e w4 ⟨u1, v1, rfl, hT1, hb4⟩
              obtain ⟨u1, v1, rfl, rfl⟩ := hT1.shape
              have hol4 := HOL.out.below hb4
              have hT4 : TyIs w4 (fun y => w.heap.size ≤ y ∧ y < w4.heap.size ∧ y ≠ wc.heap.size ∧ y ≠ wd.heap.size) g.2.2 (sv u1) (.slice v1.1 v1.2.1 v1.2.2) := hT1.more fun y hy => by
                have h1 := hy.1
                have h2 := HBE.out.size
                have h3 := HRA2.out.lt
                exact ⟨by omega, hy.2, by omega, by omega⟩
              have hput := hol4.put hg hgL hT4
              have q0 : ∃ x, w4.cell? ⟨wc.heap.size, g.1 * 2, none⟩ = some x := ⟨_, by rw [hol4.own.cellAt _ (by omega)]; exact List.getElem?_eq_getElem (by rw [flat2_length, hol4.len]; omega)⟩
              have q1 : ∃ x, w4.cell? ⟨wc.heap.size, g.1 * 2 + 1, none⟩ = some x := ⟨_, by rw [hol4.own.cellAt _ (by omega)]; exact List.getElem?_eq_getElem (by rw [flat2_length, hol4.len]; omega)⟩
              obtain ⟨x0, q0⟩ := q0
              obtain ⟨x1, q1⟩ := q1
              have z0 : w4.frozen? ⟨wc.heap.size, g.1 * 2, none⟩ = false := hol4.own.frozenAt _
              have z1 : w4.frozen? ⟨wc.heap.size, g.1 * 2 + 1, none⟩ = false := hol4.own.frozenAt _
              have HPUT := Lib.hid hput
              have HB4 := Lib.hid hb4
              clear hput hol4 hT4 hT1 hb4
              go_wp2
              have hks : Kp (fun y => y = wc.heap.size) w4 ((w4.setCell ⟨wc.heap.size, g.1 * 2, none⟩ (sv u1)).setCell ⟨wc.heap.size, g.1 * 2 + 1, none⟩ (.slice v1.1 v1.2.1 v1.2.2)) :=
                (Kp.setCell (M := fun y => y = wc.heap.size) (Kp.refl _ w4) (fun _ => rfl) _).trans (Kp.setCell (M := fun y => y = wc.heap.size) (Kp.refl _ _) (fun _ => rfl) _) fun _ _ h => h
              have hgb : d.gb ≠ wc.heap.size := fun e => by
                obtain ⟨cs, hc⟩ := row_block HOL.out.own (g := wc.heap.size) rfl
                exact HRN.out.map.not_cells (e ▸ hc)
              have hl1 := HRN.out.map.lt
              have hl2 := HRN.out.lt
              have hb1 := (hks.block d.gb (Nat.lt_of_lt_of_le hl1 HB4.out.size) hgb).trans (HB4.out.block _ hl1)
              have hb2 := (hks.block wd.heap.size (Nat.lt_of_lt_of_le hl2 HB4.out.size) hgr.symm).trans (HB4.out.block _ hl2)
              refine ⟨⟨_, _, HRN.out.same hb1 hb2, (by rw [← HGV.out]; exact HPUT.out), (HKX.out.below HB4.out).trans hks fun _ _ e => .inl e⟩, ?_⟩
              rw [rangeLeft_same hb1 hb2]
              exact HLESS.out
        · obtain ⟨g, hg, hgv⟩ := List.mem_map.1 hmem
          obtain ⟨rfl, rfl⟩ := Prod.mk.inj hgv
          have hg100 := (HGU.out g hg).2.1
          have hnx : ∀ ty, (Instr.next (.pointer (some ⟨wa.heap.size, 0, none⟩)) false ty).run Tryd.prog wr = _ := fun _ => hrun
          go_wp2
          refine ⟨⟨max L (g.1 + 1), _, ?_, by omega, hrn, hkr.trans hkn fun _ _ h => h, fun g2 hg2 hd => ?_, .inr ?_⟩, hless⟩
          · congr 1; omega
          · rcases List.mem_cons.1 hd with h | h
            · have h1 := (Prod.mk.inj (hgv.symm.trans h.symm)).1
              have := Value.int.inj h1
              omega
            · have := hlt1 g2 hg2 h
              omega
          · rcases hlt2 with h | ⟨g2, hg2, h⟩
            · exact ⟨g, hg, by omega⟩
            · rcases Nat.le_total L (g.1 + 1) with hle | hle
              · exact ⟨g, hg, by omega⟩
              · exact ⟨g2, hg2, by omega⟩
end Go.Proofs.YtndhglcdkegigaaDoor
