/-
  The walk of law06's ModulesBinds.
  Conditions: the faces, the binds and the numbers lie in memory; the faces are not too large, there are at most 2000000 binds.
-/
import Derived.Test.YtcliegpofhjpcaaMdN
import Derived.Test.YtcliegpofhjpcaaMdC
import Derived.Test.YtcliegpofhjpcaaMdV
namespace Go.Proofs.Ytcliegpofhjpcaa
open Go.RowKit

theorem outs_small {l : List Face} {R : List (List Key)} (h : AllIs l R) (hf : Fit l) {i : Nat} {x : List Key} (hx : R[i]? = some x) : x.length ≤ 100000000 := by
  have := asc_len_le (h.inv.asc i) (h.inv.sub i)
  rw [getL_of hx] at this
  have := hf.all
  omega
theorem few_univ {l : List Face} {R : List (List Key)} (h : AllIs l R) (hf : Fit l) {i : Nat} {f : Face} (hfi : l[i]? = some f) : ∀ ks : List Key, ks.Nodup → (∀ k ∈ ks, InStep f.md f.own R k) → ks.length ≤ 100000000 := fun ks hn hk => by
  refine Nat.le_trans (nodup_le2 hn fun k hkm => ?_) hf.all
  rcases hk k hkm with ⟨n, hn, rfl⟩ | ⟨x, hx, hkx, _⟩
  · exact List.mem_flatMap.2 ⟨f, List.mem_of_getElem? hfi, List.mem_map.2 ⟨n, hn, rfl⟩⟩
  · obtain ⟨j, hj⟩ := List.getElem?_of_mem hx
    refine h.inv.sub j k ?_
    rw [getL_of hj]
    exact hkx
theorem few_sum {m : List UInt8} {names : List (List UInt8)} {bl : List (List Key)} (h1 : names.length ≤ 50000000) (h2 : (bl.map (·.length)).sum ≤ 2000000) : ∀ ks : List Key, ks.Nodup → (∀ k ∈ ks, InStep m names bl k) → ks.length ≤ 100000000 := fun ks hn hk => by
  have hle := nodup_le2 (l := (ownS names).map (bdOf m) ++ bl.flatten) hn fun k hkm => by
    rcases hk k hkm with ⟨n, hn, rfl⟩ | ⟨x, hx, hkx, _⟩
    · exact List.mem_append_left _ (List.mem_map.2 ⟨n, hn, rfl⟩)
    · exact List.mem_append_right _ (List.mem_flatten.2 ⟨x, hx, hkx⟩)
  have h3 : (ownS names).length ≤ names.length := List.length_filter_le _ _
  rw [List.length_append, List.length_map, List.length_flatten] at hle
  have e : (bl.map List.length).sum = (bl.map (·.length)).sum := rfl
  omega
theorem sum_mem {bl : List (List Key)} {x : List Key} (h : x ∈ bl) : x.length ≤ (bl.map (·.length)).sum := by
  induction bl with
  | nil => cases h
  | cons a r ih =>
    simp only [List.map_cons, List.sum_cons]
    rcases List.mem_cons.1 h with rfl | h
    · omega
    · have := ih h; omega
theorem step_same {m : List UInt8} {names : List (List UInt8)} {o : List (List Key)} {s s' : List Key} (h1 : AscK s) (h2 : ∀ k, k ∈ s ↔ InStep m names o k) (h3 : AscK s') (h4 : ∀ k, k ∈ s' ↔ InStep m names o k) : s = s' := h1.unique h3 fun k => by rw [h2, h4]
theorem OutsAt.bdss {B g : Nat} {w : World} {outs : List (List Key)} (h : OutsAt B g w outs) {n : Nat} (hn : outs.length = n) : BdssV w (Lt w.heap.size) (.slice (some ⟨g, 0, none⟩) n n) outs := by
  obtain ⟨vs, h1, h2⟩ := h
  subst hn
  refine ⟨_, _, vs, rfl, by rw [h1.1, Nat.mul_one], Row.ofOwn h1 fun _ _ _ h => h, fun i u l hu hl => ?_⟩
  obtain ⟨A, c, e, _, hr⟩ := h2 i u l hu hl
  exact ⟨A, c, e, hr.more fun b hb => hb.1.2⟩
theorem BdssV.below {w w' : World} {v : Value} {ls : List (List Key)} (h : BdssV w (Lt w.heap.size) v ls) (hb : Below w.heap.size w w') : BdssV w' (Lt w'.heap.size) v ls := (h.keep (kept_below hb)).more fun _ hb' => Nat.lt_of_lt_of_le hb' hb.size
theorem FcsV.below {w w' : World} {v : Value} {l : List Face} (h : FcsV w (Lt w.heap.size) v l) (hb : Below w.heap.size w w') : FcsV w' (Lt w'.heap.size) v l := (h.keep (kept_below hb)).more fun _ hb' => Nat.lt_of_lt_of_le hb' hb.size
theorem Row.below {w w' : World} {A : Option Addr} {xs : List Value} (h : Row w (Lt w.heap.size) A xs) (hb : Below w.heap.size w w') : Row w' (Lt w'.heap.size) A xs := (h.keep (kept_below hb)).more fun _ hb' => Nat.lt_of_lt_of_le hb' hb.size
theorem bdss_at {w : World} {S : Nat → Prop} {BA : Option Addr} {n c : Nat} {ls : List (List Key)} (h : BdssV w S (.slice BA n c) ls) {i : Nat} {x : List Key} (hx : ls[i]? = some x) : ∃ (ad : Addr) (A : Option Addr) (d : Nat), BA = some ad ∧ w.cell? (ad.add i) = some (.slice A x.length d) ∧ Row w S A (flt bdC x) := by
  obtain ⟨A, c', vs, e, hl, hr, hv⟩ := h
  obtain ⟨rfl, _, _⟩ := Value.slice.inj e
  have hi := (List.getElem?_eq_some_iff.1 hx).1
  have hvi : vs[i]? = some (vs[i]'(by omega)) := List.getElem?_eq_getElem _
  obtain ⟨A1, c1, e1, hr1⟩ := hv i _ x hvi hx
  obtain ⟨ad, hA, _, hc⟩ := hr.at_ hvi
  exact ⟨ad, A1, c1, hA, by rw [hc, e1], hr1⟩


set_option maxHeartbeats 1600000 in
set_option maxRecDepth 100000 in
theorem binds_heavy (m rn bn : Nat) (RA BA TA : Option Addr) (rc bc tc : Nat) (w : World) (h : ¬ (m ≤ 400 ∧ rn ≤ 12 ∧ bn ≤ 12)) :
    Calls Try.prog 3 #[.slice RA rn rc, .slice BA bn bc, .slice TA m tc] w fun e w' => e = .returned (.bool true) ∧ Below w.heap.size w w' := by
  have HL := Lib.hid (light_any m TA tc w)
  by_cases hm : m ≤ 400
  · have hd0 : decide (m ≤ 400) = true := by simpa using hm
    by_cases hr : rn ≤ 12
    · have hb : ¬ bn ≤ 12 := fun hb => h ⟨hm, hr, hb⟩
      have q1 : decide ((12 : Int) < (rn : Int)) = false := by simp; omega
      have q2 : decide ((12 : Int) < (bn : Int)) = true := by simp; omega
      clear hm hr hb h
      go_enter Try.func3, Try.ntmps3
      go_wp2_with fail
      refine HL.out.mono ?_
      rintro e w1 ⟨rfl, rfl⟩
      rw [hd0]
      clear HL hd0
      go_wp2_with fail
      refine (awake_any w).mono ?_
      rintro e wz ⟨rfl, hbz⟩
      have HBz := Lib.hid hbz
      clear hbz
      go_wp2
      go_ret
      exact ⟨rfl, HBz.out⟩
    · have q1 : decide ((12 : Int) < (rn : Int)) = true := by simp; omega
      clear hm hr h
      go_enter Try.func3, Try.ntmps3
      go_wp2_with fail
      refine HL.out.mono ?_
      rintro e w1 ⟨rfl, rfl⟩
      rw [hd0]
      clear HL hd0
      go_wp2_with fail
      refine (awake_any w).mono ?_
      rintro e wz ⟨rfl, hbz⟩
      have HBz := Lib.hid hbz
      clear hbz
      go_wp2
      go_ret
      exact ⟨rfl, HBz.out⟩
  · have hd0 : decide (m ≤ 400) = false := by simpa using hm
    clear hm h
    go_enter Try.func3, Try.ntmps3
    go_wp2_with fail
    refine HL.out.mono ?_
    rintro e w1 ⟨rfl, rfl⟩
    rw [hd0]
    clear HL hd0
    go_wp2_with fail
    refine (awake_any w).mono ?_
    rintro e wz ⟨rfl, hbz⟩
    have HBz := Lib.hid hbz
    clear hbz
    go_wp2
    go_ret
    exact ⟨rfl, HBz.out⟩

set_option maxHeartbeats 8000000 in
set_option maxRecDepth 100000 in
theorem binds_light (l0 : List Face) (bl : List (List Key)) (xs : List Int) (RA BA TA : Option Addr) (rc bc tc : Nat) (w : World) (h0 : FcsV w (Lt w.heap.size) (.slice RA l0.length rc) l0) (h1 : BdssV w (Lt w.heap.size) (.slice BA bl.length bc) bl)
    (hA : Row w (Lt w.heap.size) TA (xs.map (Value.int .i64))) (hf : ∀ x ∈ xs, -9223372036854775808 ≤ x ∧ x ≤ 9223372036854775807) (hfew : xs.length ≤ 400) (hr12 : l0.length ≤ 12) (hb12 : bl.length ≤ 12) (hfit : Fit l0) (hown : ∀ f ∈ l0, f.own.length ≤ 50000000) (hsum : (bl.map (·.length)).sum ≤ 2000000) :
    Calls Try.prog 3 #[.slice RA l0.length rc, .slice BA bl.length bc, .slice TA xs.length tc] w fun e w' => e = .returned (.bool true) ∧ Below w.heap.size w w' := by
  obtain ⟨m, hm⟩ : ∃ m, m = xs.length := ⟨_, rfl⟩
  obtain ⟨rn, hrn⟩ : ∃ rn, rn = l0.length := ⟨_, rfl⟩
  obtain ⟨bn, hbn⟩ : ∃ bn, bn = bl.length := ⟨_, rfl⟩
  have HL := Lib.hid (light_any m TA tc w)
  have HRO := Lib.hid (roll_any xs TA tc w hA hfew hf)
  rw [← hm] at HRO hfew ⊢
  rw [← hrn] at h0 hr12 ⊢
  rw [← hbn] at h1 hb12 ⊢
  have hd0 : decide (m ≤ 400) = true := by simpa using hfew
  have q1 : decide ((12 : Int) < (rn : Int)) = false := by simp; omega
  have q2 : decide ((12 : Int) < (bn : Int)) = false := by simp; omega
  obtain ⟨i0, hi, hz0, hz1, hz2⟩ := info_parts infoBd
  have HRN := Lib.hid hrn
  have HBN := Lib.hid hbn
  have H0 := Lib.hid h0
  have H1 := Lib.hid h1
  have HFIT := Lib.hid hfit
  have HOWN0 := Lib.hid hown
  have HSUM := Lib.hid hsum
  clear hA hf hm hrn hbn h0 h1 hfit hown hsum
  go_enter Try.func3, Try.ntmps3
  go_wp2_with fail
  refine HL.out.mono ?_
  rintro e w1 ⟨rfl, rfl⟩
  rw [hd0]
  clear HL hd0
  go_wp2_with fail
  refine HRO.out.mono ?_
  rintro e w1 ⟨rfl, hd1, hb1⟩
  have hdl1 := hd1.lt
  have HD1 := Lib.hid hd1
  have HB1 := Lib.hid hb1
  clear hd1 hb1 HRO q1 q2
  go_wp2_with fail
  refine (faces_any w.heap.size xs w1 HD1.out).mono ?_
  rintro e w2 ⟨lv, l, rfl, hF2, hSm, hD2, hK2⟩
  have hs12 := hK2.size
  have hb2 := kp_below HB1.out hK2 fun y e => by omega
  obtain ⟨LA, lc, vs, rfl, hvl, hvr, hvs⟩ := hF2
  obtain ⟨n, hn⟩ : ∃ n, n = l.length := ⟨_, rfl⟩
  have hF2 : FcsV w2 (Lt w2.heap.size) (.slice LA n lc) l := ⟨LA, lc, vs, by rw [hn], hvl, hvr.more fun b hb => hb.2, fun i u f h1 h2 => ⟨(hvs i u f h1 h2).1, (hvs i u f h1 h2).2.1.more fun b hb => hb.2, (hvs i u f h1 h2).2.2.more fun b hb => hb.2⟩⟩
  rw [← hn]
  obtain ⟨w3, hw3⟩ : ∃ w3, w3 = w2.alloc (.cells #[.slice RA rn rc, .slice LA n lc] 22) := ⟨_, rfl⟩
  have hb3 : Below w2.heap.size w2 w3 := by rw [hw3]; exact (Below.refl _ _).alloc (Nat.le_refl _) _
  have hblk : w3.heap[w2.heap.size]? = some (.cells #[.slice RA rn rc, .slice LA n lc] 22 (0, 0)) := by rw [hw3]; exact alloc1 _ _
  have HF2 := Lib.hid (hF2.below hb3)
  have HB2 := Lib.hid (hb2.trans (hb3.mono hb2.size))
  have HD2 := Lib.hid (hD2.below hb3)
  have HSM := Lib.hid hSm
  have HN := Lib.hid hn
  have HW3 := Lib.hid hw3
  have HBLK := Lib.hid hblk
  clear hF2 hvl hvr hvs hD2 hK2 HD1 HB1 hn hw3 hb3 hb2 hblk hSm
  go_wp2_with fail
  rw [← HW3.out]
  clear HW3
  go_loopw [41] (fun i wr => ∃ q : Nat, q ≤ 2 ∧ i = .int .i64 q ∧ Below w3.heap.size w3 wr) (fun i _ => 2 - (intOf i).toNat)
  case atStart => exact ⟨0, by omega, rfl, Below.refl _ _⟩
  case round =>
    obtain ⟨q, hq2, rfl, hB⟩ := hrel
    have HB := Lib.hid hB
    clear hB
    by_cases hlt : q < 2
    · obtain ⟨FA, fn, fc, lf, hcf, hfn, hFf, hFit, hFo⟩ : ∃ (FA : Option Addr) (fn fc : Nat) (lf : List Face), w3.cell? ⟨w2.heap.size, q, none⟩ = some (.slice FA fn fc) ∧ fn = lf.length ∧ FcsV w3 (Lt w3.heap.size) (.slice FA fn fc) lf ∧ Fit lf ∧ ∀ f ∈ lf, f.own.length ≤ 50000000 := by
        have hq : q = 0 ∨ q = 1 := by omega
        rcases hq with rfl | rfl
        · exact ⟨RA, rn, rc, l0, (Lib.cell_of_heap HBLK.out _).trans rfl, HRN.out, H0.out.below HB2.out, HFIT.out, HOWN0.out⟩
        · exact ⟨LA, n, lc, l, (Lib.cell_of_heap HBLK.out _).trans rfl, HN.out, HF2.out, HSM.out.fit, fun f hf => by have := (HSM.out.own f hf).1; omega⟩
      have hcf' := (HB.out.cell (block_lt_of_cell hcf)).trans hcf
      have hfw := hFf.below HB.out
      have HAL := Lib.hid (all_any lf _ wr hFit hfw)
      have HFW := Lib.hid hfw
      have HFN := Lib.hid hfn
      have HFI := Lib.hid hFit
      have HFO := Lib.hid hFo
      have hik : (0 : Int) ≤ (q : Int) ∧ (q : Int) < 2 := ⟨by omega, by omega⟩
      have hfnl : fn ≤ 1000000 := by rw [HFN.out]; exact HFI.out.few
      have hkk : decide ((q : Int) < 2) = true := by simp; omega
      clear hcf hFf hfw hfn hFit hFo
      go_wp2_with fail
      refine HAL.out.mono ?_
      rintro e w4 ⟨R, g1, rfl, hR, hO, hb4⟩
      have hRl : R.length = fn := by rw [hR.inv.len, HFN.out]
      have HRA := Lib.hid (rall_any lf _ w4 HFI.out (HFW.out.below hb4))
      rw [hRl]
      have HR := Lib.hid hR
      have HOR := Lib.hid hO
      have HB4 := Lib.hid hb4
      have HRL := Lib.hid hRl
      clear hR hO hb4 hRl HAL
      go_wp2_with fail
      refine HRA.out.mono ?_
      rintro e wc ⟨R', g2, rfl, hR', hO', hb5⟩
      obtain rfl := HR.out.unique hR'
      rw [HRL.out]
      have HO := Lib.hid (HOR.out.below hb5)
      have HO' := Lib.hid hO'
      have hbc := HB4.out.trans (hb5.mono HB4.out.size)
      have HFC := Lib.hid (HFW.out.below hbc)
      have HBC := Lib.hid (HB.out.trans (hbc.mono HB.out.size))
      clear hR' hO' hb5 hbc HFW HB4 HRA HOR HB
      go_wp2_with fail
      go_loopw [12] (fun i wr => ∃ p : Nat, p ≤ fn ∧ i = .int .i64 p ∧ Below wc.heap.size wc wr) (fun i _ => fn - (intOf i).toNat)
      case atStart => exact ⟨0, by omega, rfl, Below.refl _ _⟩
      case round =>
        obtain ⟨p, hpn, rfl, hB⟩ := hrel
        by_cases hlp : p < fn
        · obtain ⟨x, hx⟩ : ∃ x, R[p]? = some x := ⟨_, List.getElem?_eq_getElem (by rw [HRL.out]; exact hlp)⟩
          obtain ⟨f, hfp⟩ : ∃ f, lf[p]? = some f := ⟨_, List.getElem?_eq_getElem (by rw [← HFN.out]; exact hlp)⟩
          obtain ⟨va, ca, _, AA, ac, rfl, _, hra⟩ := HO.out.at_ hx
          obtain ⟨vb, cb, _, AB, bcc, rfl, _, hrb⟩ := HO'.out.at_ hx
          have hxl := outs_small HR.out HFI.out hx
          obtain ⟨FA', fc', vs', ev, hvl, hvr, hvs⟩ := HFC.out
          obtain ⟨e1, -, e2⟩ := Value.slice.inj ev
          subst e1 e2
          obtain ⟨u, hu⟩ : ∃ u, vs'[p]? = some u := ⟨_, List.getElem?_eq_getElem (by rw [hvl, ← HFN.out]; exact hlp)⟩
          obtain ⟨hum, ⟨OA, oc, hov, hor⟩, _⟩ := hvs p u f hu hfp
          obtain ⟨ad, rfl, _, f0, f1, _⟩ := fv_at hvr hu
          have hfm := List.mem_of_getElem? hfp
          rw [hum] at f0
          rw [hov] at f1
          obtain ⟨zo, hzo⟩ : ∃ zo, zo = f.own.length := ⟨_, rfl⟩
          obtain ⟨zx, hzx⟩ : ∃ zx, zx = x.length := ⟨_, rfl⟩
          have HC : Hid (AtCells [(⟨g1, p, none⟩, .slice AA zx ac), (⟨g2, p, none⟩, .slice AB zx bcc), (ad.add (p * 3), sv f.md), (⟨(ad.add (p * 3)).block, (ad.add (p * 3)).off + 1, none⟩, .slice OA zo oc)] wc) := Lib.hid ⟨by rw [hzx]; exact ca, by rw [hzx]; exact cb, f0, by rw [hzo]; exact f1, trivial⟩
          have HC := Lib.hid (HC.out.below hB)
          have hfa := few_univ HR.out HFI.out hfp
          have hfb := few_sum (m := f.md) (HFO.out f hfm) HSUM.out
          have HFA := Lib.hid hfa
          have HFB := Lib.hid hfb
          have HFT : Hid (f.md.length ≤ 100000000 ∧ f.own.length ≤ 100000000 ∧ ∀ n ∈ f.own, n.length ≤ 100000000) := Lib.hid ⟨HFI.out.md f hfm, HFI.out.own f hfm⟩
          have HB := Lib.hid hB
          have HOR := Lib.hid ((hor.keep (kept_below hB)).more (S' := Lt wr.heap.size) fun b hb => Nat.lt_of_lt_of_le hb hB.size)
          have HXA := Lib.hid ((hra.more (S' := Lt wc.heap.size) fun b hb => hb.1.2).below hB)
          have HXB := Lib.hid ((hrb.more (S' := Lt wc.heap.size) fun b hb => hb.1.2).below hB)
          have HBS1 := Lib.hid ((HO'.out.bdss HRL.out).below hB)
          have HBS2 := Lib.hid ((H1.out.below (HB2.out.trans (HBC.out.mono HB2.out.size))).below hB)
          have HXL := Lib.hid hxl
          have HZO := Lib.hid hzo
          have HZX := Lib.hid hzx
          have HRS : Hid (R.length ≤ 100000000 ∧ (∀ x ∈ R, x.length ≤ 100000000) ∧ bl.length ≤ 100000000 ∧ ∀ x ∈ bl, x.length ≤ 100000000) := Lib.hid ⟨by rw [HR.out.inv.len]; have := HFI.out.few; omega, fun y hy => by
            obtain ⟨j, hj⟩ := List.getElem?_of_mem hy
            exact outs_small HR.out HFI.out hj, by rw [← HBN.out]; omega, fun y hy => by have := sum_mem hy; have := HSUM.out; omega⟩
          have hik : (0 : Int) ≤ (p : Int) ∧ (p : Int) < (fn : Int) := ⟨by omega, by omega⟩
          clear hx hfp ca cb hra hrb hxl hvl hvr hvs hu hum hov hor hfm f0 f1 hfa hfb hB hzo hzx ev
          go_wp2_with fail
          refine wp_region_mix (AtCells [(⟨g1, p, none⟩, .slice AA zx ac), (⟨g2, p, none⟩, .slice AB zx bcc), (ad.add (p * 3), sv f.md), (⟨(ad.add (p * 3)).block, (ad.add (p * 3)).off + 1, none⟩, .slice OA zo oc)]) [(true, 0), (true, 1), (true, 2), (true, 3), (true, 4), (true, 5), (true, 6), (true, 7), (false, 8), (true, 9), (true, 10), (true, 11), (true, 12), (true, 13), (true, 14), (true, 15), (true, 16), (true, 17), (true, 18), (true, 19), (true, 20), (true, 21), (true, 23), (true, 24), (true, 25), (true, 26), (true, 27), (true, 28), (true, 29), (true, 30), (true, 31), (true, 32), (true, 33), (false, 22), (false, 34), (false, 35), (true, 36), (true, 37), (true, 38), (true, 39), (true, 40), (true, 41), (true, 42), (true, 43), (true, 44), (true, 45), (true, 46), (true, 47), (true, 48), (true, 49), (true, 51), (true, 52), (true, 53), (true, 54), (true, 55), (true, 56), (true, 57), (true, 58), (true, 59), (true, 60), (true, 61), (false, 50), (false, 62), (false, 63), (true, 64), (true, 65)] [] (by kernel_rfl) (by kernel_rfl) ?sa ?ha
          case sa => exact HC.out.below (Below.refl _ wr).drew
          case ha =>
          simp only [mixAt, List.filterMap_cons, List.filterMap_nil, List.getElem?_toArray, List.getElem?_cons_succ, List.getElem?_cons_zero, Option.map_some]
          refine wpMix_load ?va0 rfl (fun w' hS => ?ya0) ?ka0
          case ya0 =>
            obtain ⟨g1, g2, g3, g4, _⟩ := hS
            go_simp
            try rfl
          case ka0 =>
          go_simp
          refine wpMix_load ?va1 rfl (fun w' hS => ?ya1) ?ka1
          case ya1 =>
            obtain ⟨g1, g2, g3, g4, _⟩ := hS
            go_simp
            try rfl
          case ka1 =>
          go_simp
          refine wpMix_load ?va2 rfl (fun w' hS => ?ya2) ?ka2
          case ya2 =>
            obtain ⟨g1, g2, g3, g4, _⟩ := hS
            go_simp
            try rfl
          case ka2 =>
          go_simp
          refine wpMix_load ?va3 rfl (fun w' hS => ?ya3) ?ka3
          case ya3 =>
            obtain ⟨g1, g2, g3, g4, _⟩ := hS
            go_simp
            try rfl
          case ka3 =>
          go_simp
          refine wpMix_load ?va4 rfl (fun w' hS => ?ya4) ?ka4
          case ya4 =>
            obtain ⟨g1, g2, g3, g4, _⟩ := hS
            go_simp
            try rfl
          case ka4 =>
          go_simp
          refine wpMix_load ?va5 rfl (fun w' hS => ?ya5) ?ka5
          case ya5 =>
            obtain ⟨g1, g2, g3, g4, _⟩ := hS
            go_simp
            try rfl
          case ka5 =>
          go_simp
          refine wpMix_load ?va6 rfl (fun w' hS => ?ya6) ?ka6
          case ya6 =>
            obtain ⟨g1, g2, g3, g4, _⟩ := hS
            go_simp
            try rfl
          case ka6 =>
          go_simp
          refine wpMix_load ?va7 rfl (fun w' hS => ?ya7) ?ka7
          case ya7 =>
            obtain ⟨g1, g2, g3, g4, _⟩ := hS
            go_simp
            try rfl
          case ka7 =>
          go_simp
          refine wpMix_keep rfl ?_
          go_wp2_with fail
          have hsb := sameB_any x x AA AB ac bcc wr.drew HXL.out HXA.out HXB.out
          rw [← HZX.out] at hsb
          refine hsb.mono ?_
          clear hsb
          rintro e ww0 ⟨r, rfl, hr, hba⟩
          obtain rfl := hr.2 rfl
          have hbx : Below wr.heap.size wr ww0 := (Below.refl _ wr).drew.trans hba
          refine ⟨HC.out.below hbx, ?_⟩
          have HBB0 := Lib.hid hbx
          clear hr hba hbx
          refine wpMix_load ?vb9 rfl (fun w' hS => ?yb9) ?kb9
          case yb9 =>
            obtain ⟨g1, g2, g3, g4, _⟩ := hS
            go_simp
            try rfl
          case kb9 =>
          go_simp
          refine wpMix_load ?vb10 rfl (fun w' hS => ?yb10) ?kb10
          case yb10 =>
            obtain ⟨g1, g2, g3, g4, _⟩ := hS
            go_simp
            try rfl
          case kb10 =>
          go_simp
          refine wpMix_load ?vb11 rfl (fun w' hS => ?yb11) ?kb11
          case yb11 =>
            obtain ⟨g1, g2, g3, g4, _⟩ := hS
            go_simp
            try rfl
          case kb11 =>
          go_simp
          refine wpMix_load ?vb12 rfl (fun w' hS => ?yb12) ?kb12
          case yb12 =>
            obtain ⟨g1, g2, g3, g4, _⟩ := hS
            go_simp
            try rfl
          case kb12 =>
          go_simp
          refine wpMix_load ?vb13 rfl (fun w' hS => ?yb13) ?kb13
          case yb13 =>
            obtain ⟨g1, g2, g3, g4, _⟩ := hS
            go_simp
            try rfl
          case kb13 =>
          go_simp
          refine wpMix_load ?vb14 rfl (fun w' hS => ?yb14) ?kb14
          case yb14 =>
            obtain ⟨g1, g2, g3, g4, _⟩ := hS
            go_simp
            try rfl
          case kb14 =>
          go_simp
          refine wpMix_load ?vb15 rfl (fun w' hS => ?yb15) ?kb15
          case yb15 =>
            obtain ⟨g1, g2, g3, g4, _⟩ := hS
            go_simp
            try rfl
          case kb15 =>
          go_simp
          refine wpMix_load ?vb16 rfl (fun w' hS => ?yb16) ?kb16
          case yb16 =>
            obtain ⟨g1, g2, g3, g4, _⟩ := hS
            go_simp
            try rfl
          case kb16 =>
          go_simp
          refine wpMix_load ?vb17 rfl (fun w' hS => ?yb17) ?kb17
          case yb17 =>
            obtain ⟨g1, g2, g3, g4, _⟩ := hS
            go_simp
            try rfl
          case kb17 =>
          go_simp
          refine wpMix_load ?vb18 rfl (fun w' hS => ?yb18) ?kb18
          case yb18 =>
            obtain ⟨g1, g2, g3, g4, _⟩ := hS
            go_simp
            try rfl
          case kb18 =>
          go_simp
          refine wpMix_load ?vb19 rfl (fun w' hS => ?yb19) ?kb19
          case yb19 =>
            obtain ⟨g1, g2, g3, g4, _⟩ := hS
            go_simp
            try rfl
          case kb19 =>
          go_simp
          refine wpMix_load ?vb20 rfl (fun w' hS => ?yb20) ?kb20
          case yb20 =>
            obtain ⟨g1, g2, g3, g4, _⟩ := hS
            go_simp
            try rfl
          case kb20 =>
          go_simp
          refine wpMix_load ?vb21 rfl (fun w' hS => ?yb21) ?kb21
          case yb21 =>
            obtain ⟨g1, g2, g3, g4, _⟩ := hS
            go_simp
            try rfl
          case kb21 =>
          go_simp
          refine wpMix_load ?vc23 rfl (fun w' hS => ?yc23) ?kc23
          case yc23 =>
            obtain ⟨g1, g2, g3, g4, _⟩ := hS
            go_simp
            try rfl
          case kc23 =>
          go_simp
          refine wpMix_load ?vc24 rfl (fun w' hS => ?yc24) ?kc24
          case yc24 =>
            obtain ⟨g1, g2, g3, g4, _⟩ := hS
            go_simp
            try rfl
          case kc24 =>
          go_simp
          refine wpMix_load ?vc25 rfl (fun w' hS => ?yc25) ?kc25
          case yc25 =>
            obtain ⟨g1, g2, g3, g4, _⟩ := hS
            go_simp
            try rfl
          case kc25 =>
          go_simp
          refine wpMix_load ?vc26 rfl (fun w' hS => ?yc26) ?kc26
          case yc26 =>
            obtain ⟨g1, g2, g3, g4, _⟩ := hS
            go_simp
            try rfl
          case kc26 =>
          go_simp
          refine wpMix_load ?vc27 rfl (fun w' hS => ?yc27) ?kc27
          case yc27 =>
            obtain ⟨g1, g2, g3, g4, _⟩ := hS
            go_simp
            try rfl
          case kc27 =>
          go_simp
          refine wpMix_load ?vc28 rfl (fun w' hS => ?yc28) ?kc28
          case yc28 =>
            obtain ⟨g1, g2, g3, g4, _⟩ := hS
            go_simp
            try rfl
          case kc28 =>
          go_simp
          refine wpMix_load ?vc29 rfl (fun w' hS => ?yc29) ?kc29
          case yc29 =>
            obtain ⟨g1, g2, g3, g4, _⟩ := hS
            go_simp
            try rfl
          case kc29 =>
          go_simp
          refine wpMix_load ?vc30 rfl (fun w' hS => ?yc30) ?kc30
          case yc30 =>
            obtain ⟨g1, g2, g3, g4, _⟩ := hS
            go_simp
            try rfl
          case kc30 =>
          go_simp
          refine wpMix_load ?vc31 rfl (fun w' hS => ?yc31) ?kc31
          case yc31 =>
            obtain ⟨g1, g2, g3, g4, _⟩ := hS
            go_simp
            try rfl
          case kc31 =>
          go_simp
          refine wpMix_load ?vc32 rfl (fun w' hS => ?yc32) ?kc32
          case yc32 =>
            obtain ⟨g1, g2, g3, g4, _⟩ := hS
            go_simp
            try rfl
          case kc32 =>
          go_simp
          refine wpMix_load ?vc33 rfl (fun w' hS => ?yc33) ?kc33
          case yc33 =>
            obtain ⟨g1, g2, g3, g4, _⟩ := hS
            go_simp
            try rfl
          case kc33 =>
          go_simp
          refine wpMix_keep rfl ?_
          go_wp2_with fail
          have hsb := step_any f.md f.own R OA oc (.slice (some ⟨g2, 0, none⟩) fn fn) ww0 HFT.out.1 HFT.out.2.2 HFT.out.2.1 HRS.out.1 HRS.out.2.1 HFA.out (HOR.out.below HBB0.out) (HBS1.out.below HBB0.out)
          rw [← HZO.out] at hsb
          refine hsb.mono ?_
          clear hsb
          rintro e wa1 ⟨A1, c1, s1, rfl, hc1, ha1, hm1, hr1, hba⟩
          have hs1 : s1.length ≤ 100000000 := HFA.out s1 ha1.nodup fun k hk => (hm1 k).1 hk
          have hbx := HBB0.out.trans (hba.mono HBB0.out.size)
          refine ⟨HC.out.below hbx, ?_⟩
          have HXA1 := Lib.hid hbx
          have HR11 := Lib.hid (hr1.more (S' := Lt wa1.heap.size) fun b hb => hb.2)
          have HSS1 := Lib.hid (And.intro ha1 hm1)
          have HLA := Lib.hid hs1
          clear hc1 ha1 hm1 hr1 hba hbx hs1
          refine wpMix_keep rfl ?_
          go_wp2_with fail
          have hsb := rstep_any f.md f.own R OA oc (.slice (some ⟨g2, 0, none⟩) fn fn) wa1 HFT.out.1 HFT.out.2.2 HFT.out.2.1 HRS.out.1 HRS.out.2.1 HFA.out (HOR.out.below HXA1.out) (HBS1.out.below HXA1.out)
          rw [← HZO.out] at hsb
          refine hsb.mono ?_
          clear hsb
          rintro e wb1 ⟨A2, c2, s2, rfl, hc2, ha2, hm2, hr2, hba⟩
          obtain rfl := step_same HSS1.out.1 HSS1.out.2 ha2 hm2
          have hbx := HXA1.out.trans (hba.mono HXA1.out.size)
          refine ⟨HC.out.below hbx, ?_⟩
          have HXB1 := Lib.hid hbx
          have HR12 := Lib.hid (hr2.more (S' := Lt wb1.heap.size) fun b hb => hb.2)
          have HR13 := Lib.hid (HR11.out.below hba)
          clear hc2 ha2 hm2 hr2 hba hbx
          refine wpMix_keep rfl ?_
          go_wp2_with fail
          refine (sameB_any s1 s1 A1 A2 c1 c2 wb1 HLA.out HR13.out HR12.out).mono ?_
          rintro e wc1 ⟨r, rfl, hr, hba⟩
          obtain rfl := hr.2 rfl
          have hbx := HXB1.out.trans (hba.mono HXB1.out.size)
          refine ⟨HC.out.below hbx, ?_⟩
          have HXC1 := Lib.hid hbx
          clear hr hba hbx
          refine wpMix_load ?vd36 rfl (fun w' hS => ?yd36) ?kd36
          case yd36 =>
            obtain ⟨g1, g2, g3, g4, _⟩ := hS
            go_simp
            try rfl
          case kd36 =>
          go_simp
          refine wpMix_load ?vd37 rfl (fun w' hS => ?yd37) ?kd37
          case yd37 =>
            obtain ⟨g1, g2, g3, g4, _⟩ := hS
            go_simp
            try rfl
          case kd37 =>
          go_simp
          refine wpMix_load ?vd38 rfl (fun w' hS => ?yd38) ?kd38
          case yd38 =>
            obtain ⟨g1, g2, g3, g4, _⟩ := hS
            go_simp
            try rfl
          case kd38 =>
          go_simp
          refine wpMix_load ?vd39 rfl (fun w' hS => ?yd39) ?kd39
          case yd39 =>
            obtain ⟨g1, g2, g3, g4, _⟩ := hS
            go_simp
            try rfl
          case kd39 =>
          go_simp
          refine wpMix_load ?vd40 rfl (fun w' hS => ?yd40) ?kd40
          case yd40 =>
            obtain ⟨g1, g2, g3, g4, _⟩ := hS
            go_simp
            try rfl
          case kd40 =>
          go_simp
          refine wpMix_load ?vd41 rfl (fun w' hS => ?yd41) ?kd41
          case yd41 =>
            obtain ⟨g1, g2, g3, g4, _⟩ := hS
            go_simp
            try rfl
          case kd41 =>
          go_simp
          refine wpMix_load ?vd42 rfl (fun w' hS => ?yd42) ?kd42
          case yd42 =>
            obtain ⟨g1, g2, g3, g4, _⟩ := hS
            go_simp
            try rfl
          case kd42 =>
          go_simp
          refine wpMix_load ?vd43 rfl (fun w' hS => ?yd43) ?kd43
          case yd43 =>
            obtain ⟨g1, g2, g3, g4, _⟩ := hS
            go_simp
            try rfl
          case kd43 =>
          go_simp
          refine wpMix_load ?vd44 rfl (fun w' hS => ?yd44) ?kd44
          case yd44 =>
            obtain ⟨g1, g2, g3, g4, _⟩ := hS
            go_simp
            try rfl
          case kd44 =>
          go_simp
          refine wpMix_load ?vd45 rfl (fun w' hS => ?yd45) ?kd45
          case yd45 =>
            obtain ⟨g1, g2, g3, g4, _⟩ := hS
            go_simp
            try rfl
          case kd45 =>
          go_simp
          refine wpMix_load ?vd46 rfl (fun w' hS => ?yd46) ?kd46
          case yd46 =>
            obtain ⟨g1, g2, g3, g4, _⟩ := hS
            go_simp
            try rfl
          case kd46 =>
          go_simp
          refine wpMix_load ?vd47 rfl (fun w' hS => ?yd47) ?kd47
          case yd47 =>
            obtain ⟨g1, g2, g3, g4, _⟩ := hS
            go_simp
            try rfl
          case kd47 =>
          go_simp
          refine wpMix_load ?vd48 rfl (fun w' hS => ?yd48) ?kd48
          case yd48 =>
            obtain ⟨g1, g2, g3, g4, _⟩ := hS
            go_simp
            try rfl
          case kd48 =>
          go_simp
          refine wpMix_load ?vd49 rfl (fun w' hS => ?yd49) ?kd49
          case yd49 =>
            obtain ⟨g1, g2, g3, g4, _⟩ := hS
            go_simp
            try rfl
          case kd49 =>
          go_simp
          refine wpMix_load ?ve51 rfl (fun w' hS => ?ye51) ?ke51
          case ye51 =>
            obtain ⟨g1, g2, g3, g4, _⟩ := hS
            go_simp
            try rfl
          case ke51 =>
          go_simp
          refine wpMix_load ?ve52 rfl (fun w' hS => ?ye52) ?ke52
          case ye52 =>
            obtain ⟨g1, g2, g3, g4, _⟩ := hS
            go_simp
            try rfl
          case ke52 =>
          go_simp
          refine wpMix_load ?ve53 rfl (fun w' hS => ?ye53) ?ke53
          case ye53 =>
            obtain ⟨g1, g2, g3, g4, _⟩ := hS
            go_simp
            try rfl
          case ke53 =>
          go_simp
          refine wpMix_load ?ve54 rfl (fun w' hS => ?ye54) ?ke54
          case ye54 =>
            obtain ⟨g1, g2, g3, g4, _⟩ := hS
            go_simp
            try rfl
          case ke54 =>
          go_simp
          refine wpMix_load ?ve55 rfl (fun w' hS => ?ye55) ?ke55
          case ye55 =>
            obtain ⟨g1, g2, g3, g4, _⟩ := hS
            go_simp
            try rfl
          case ke55 =>
          go_simp
          refine wpMix_load ?ve56 rfl (fun w' hS => ?ye56) ?ke56
          case ye56 =>
            obtain ⟨g1, g2, g3, g4, _⟩ := hS
            go_simp
            try rfl
          case ke56 =>
          go_simp
          refine wpMix_load ?ve57 rfl (fun w' hS => ?ye57) ?ke57
          case ye57 =>
            obtain ⟨g1, g2, g3, g4, _⟩ := hS
            go_simp
            try rfl
          case ke57 =>
          go_simp
          refine wpMix_load ?ve58 rfl (fun w' hS => ?ye58) ?ke58
          case ye58 =>
            obtain ⟨g1, g2, g3, g4, _⟩ := hS
            go_simp
            try rfl
          case ke58 =>
          go_simp
          refine wpMix_load ?ve59 rfl (fun w' hS => ?ye59) ?ke59
          case ye59 =>
            obtain ⟨g1, g2, g3, g4, _⟩ := hS
            go_simp
            try rfl
          case ke59 =>
          go_simp
          refine wpMix_load ?ve60 rfl (fun w' hS => ?ye60) ?ke60
          case ye60 =>
            obtain ⟨g1, g2, g3, g4, _⟩ := hS
            go_simp
            try rfl
          case ke60 =>
          go_simp
          refine wpMix_load ?ve61 rfl (fun w' hS => ?ye61) ?ke61
          case ye61 =>
            obtain ⟨g1, g2, g3, g4, _⟩ := hS
            go_simp
            try rfl
          case ke61 =>
          go_simp
          refine wpMix_keep rfl ?_
          go_wp2_with fail
          have hsb := step_any f.md f.own bl OA oc (.slice BA bn bc) wc1 HFT.out.1 HFT.out.2.2 HFT.out.2.1 HRS.out.2.2.1 HRS.out.2.2.2 HFB.out (HOR.out.below HXC1.out) (HBS2.out.below HXC1.out)
          rw [← HZO.out] at hsb
          refine hsb.mono ?_
          clear hsb
          rintro e wa2 ⟨A1, c1, s1, rfl, hc1, ha1, hm1, hr1, hba⟩
          have hs1 : s1.length ≤ 100000000 := HFB.out s1 ha1.nodup fun k hk => (hm1 k).1 hk
          have hbx := HXC1.out.trans (hba.mono HXC1.out.size)
          refine ⟨HC.out.below hbx, ?_⟩
          have HXA2 := Lib.hid hbx
          have HR21 := Lib.hid (hr1.more (S' := Lt wa2.heap.size) fun b hb => hb.2)
          have HSS2 := Lib.hid (And.intro ha1 hm1)
          have HLB := Lib.hid hs1
          clear hc1 ha1 hm1 hr1 hba hbx hs1
          refine wpMix_keep rfl ?_
          go_wp2_with fail
          have hsb := rstep_any f.md f.own bl OA oc (.slice BA bn bc) wa2 HFT.out.1 HFT.out.2.2 HFT.out.2.1 HRS.out.2.2.1 HRS.out.2.2.2 HFB.out (HOR.out.below HXA2.out) (HBS2.out.below HXA2.out)
          rw [← HZO.out] at hsb
          refine hsb.mono ?_
          clear hsb
          rintro e wb2 ⟨A2, c2, s2, rfl, hc2, ha2, hm2, hr2, hba⟩
          obtain rfl := step_same HSS2.out.1 HSS2.out.2 ha2 hm2
          have hbx := HXA2.out.trans (hba.mono HXA2.out.size)
          refine ⟨HC.out.below hbx, ?_⟩
          have HXB2 := Lib.hid hbx
          have HR22 := Lib.hid (hr2.more (S' := Lt wb2.heap.size) fun b hb => hb.2)
          have HR23 := Lib.hid (HR21.out.below hba)
          clear hc2 ha2 hm2 hr2 hba hbx
          refine wpMix_keep rfl ?_
          go_wp2_with fail
          refine (sameB_any s1 s1 A1 A2 c1 c2 wb2 HLB.out HR23.out HR22.out).mono ?_
          rintro e wc2 ⟨r, rfl, hr, hba⟩
          obtain rfl := hr.2 rfl
          have hbx := HXB2.out.trans (hba.mono HXB2.out.size)
          refine ⟨HC.out.below hbx, ?_⟩
          have HXC2 := Lib.hid hbx
          clear hr hba hbx
          refine wpMix_load ?vf64 rfl (fun w' hS => ?yf64) ?kf64
          case yf64 =>
            obtain ⟨g1, g2, g3, g4, _⟩ := hS
            go_simp
            try rfl
          case kf64 =>
          go_simp
          refine wpMix_load ?vf65 rfl (fun w' hS => ?yf65) ?kf65
          case yf65 =>
            obtain ⟨g1, g2, g3, g4, _⟩ := hS
            go_simp
            try rfl
          case kf65 =>
          go_simp
          refine wpMix_nil ?_
          simp only [opsAt, List.filterMap_cons, List.filterMap_nil, List.getElem?_toArray, List.getElem?_cons_succ, List.getElem?_cons_zero]
          go_wp2
          refine NoPanic.normal ?_
          go_wp2
          go_roundw
          case rel => exact ⟨p + 1, by omega, by go_num, HB.out.trans (HXC2.out.mono HB.out.size)⟩
          case measure => simp [intOf]; omega
        · have HBE := Lib.hid (HBC.out.trans (hB.mono HBC.out.size))
          clear hB
          go_wp2_with fail
          go_roundw
          case rel => exact ⟨q + 1, by omega, by go_num, HBE.out⟩
          case measure => simp [intOf]; omega
    · have hkk : decide ((q : Int) < 2) = false := by simp; omega
      have hbw := HB2.out.trans (HB.out.mono HB2.out.size)
      have HDW := Lib.hid (HD2.out.below HB.out)
      have HBW := Lib.hid hbw
      have H1W := Lib.hid (H1.out.below hbw)
      have hdl := HDW.out.lt
      clear hbw
      go_wp2_with fail
      refine (binds_any w.heap.size xs wr HDW.out).mono ?_
      rintro e w5 ⟨lv, L, rfl, hown, hL7, hD5, hK5⟩
      have hb5 := kp_below HBW.out hK5 fun y e => by omega
      have hsz5 := hK5.size
      have hsw := HBW.out.size
      have HB5 := Lib.hid hb5
      obtain ⟨BB, hBB⟩ : ∃ BB, BB = wr.heap.size := ⟨_, rfl⟩
      rw [← hBB] at hown hsz5 hsw hdl
      have HOWN := Lib.hid hown
      clear hBB
      clear hown hD5 hK5 hb5 HDW HBW H1W hkk HD2 HF2 H0 HBLK HSM HFIT HOWN0 HRN HN
      go_wp2_with fail
      go_loopw [13, 14] (fun lv i u => ∃ (k : Nat) (L : List Key), k ≤ bn ∧ i = .int .i64 k ∧ u.ownsRow BB 42 2 lv L.length (flt bdC L) ∧ L.length ≤ 7 + ((bl.take k).map (·.length)).sum ∧ Below w.heap.size w u ∧ BB ≤ u.heap.size) (fun _ i _ => bn - (intOf i).toNat)
      case atStart => exact ⟨0, L, by omega, rfl, HOWN.out, by omega, HB5.out, by omega⟩
      case round =>
        obtain ⟨k, L, hkn, rfl, hown, hLn, hB, hwu⟩ := hrel
        have hsle : ((bl.take k).map (·.length)).sum ≤ 2000000 := by
          have h1 := HSUM.out
          rw [← List.take_append_drop k bl, List.map_append, List.sum_append] at h1
          omega
        obtain ⟨LA5, lc5, rfl, _⟩ := own_slice hown
        have hle := own_le hown
        obtain ⟨n5, hn5⟩ : ∃ n5, n5 = L.length := ⟨_, rfl⟩
        rw [← hn5] at hown hLn hle ⊢
        have HN5 := Lib.hid hn5
        have HOW := Lib.hid hown
        have HBU := Lib.hid hB
        have HLN := Lib.hid hLn
        clear hown hB hn5 HOWN HB5 hLn
        by_cases hlk : k < bn
        · obtain ⟨x, hx⟩ : ∃ x, bl[k]? = some x := ⟨_, List.getElem?_eq_getElem (by rw [← HBN.out]; exact hlk)⟩
          have H1K := H1.out.keep (kept_below HBU.out)
          obtain ⟨ad, A1, d1, rfl, ca, hra⟩ := bdss_at H1K hx
          have hxl : ((bl.take (k + 1)).map (·.length)).sum = ((bl.take k).map (·.length)).sum + x.length := by
            rw [take_snoc hx, List.map_append, List.sum_append]
            rfl
          have hxs : x.length ≤ 2000000 := by have := sum_mem (List.mem_of_getElem? hx); have := HSUM.out; omega
          obtain ⟨z, hz⟩ : ∃ z, z = x.length := ⟨_, rfl⟩
          rw [← hz] at ca hxl hxs
          have HZ := Lib.hid hz
          have HXL := Lib.hid hxl
          have HRA := Lib.hid hra
          have hik : (0 : Int) ≤ (k : Int) ∧ (k : Int) < (bn : Int) := ⟨by omega, by omega⟩
          have hnl : n5 ≤ 2000007 := by have := HLN.out; omega
          clear hx hxl hra hz H1K
          go_wp2_with (at_builtin; refine wpList_append_row rfl _ _ 33 rfl BB 42 i0 _ 2 32 Try.underlying33 hi hz0 hz1 hz2 rfl (by omega) (.slice LA5 n5 lc5) n5 (flt bdC L) rfl HOW.out (Lt w.heap.size) A1 z d1 (flt bdC x) rfl (by rw [flt_length bdC_len, HZ.out]) HRA.out (flt_one' bdC_one _) (by unfold maxLen; omega) (by omega) (by omega) ?_)
          intro v7 w7 hown7 hg7 _
          have hlt5 := HOW.out.lt
          have hk7 : Kp (fun y => BB ≤ y) wr w7 := (Kp.refl _ _).grown hg7 (fun r hr _ => (hlt5 r hr).1)
          have hb7 := kp_below HBU.out hk7 fun y e => by omega
          have hs7 := hk7.size
          have HB7 := Lib.hid hb7
          have ho7 : w7.ownsRow BB 42 2 v7 (L ++ x).length (flt bdC (L ++ x)) := by
            rw [List.length_append, ← HN5.out, ← HZ.out, flt_append]
            exact hown7
          have hl7 : (L ++ x).length ≤ 7 + ((bl.take (k + 1)).map (·.length)).sum := by
            rw [List.length_append, ← HN5.out, ← HZ.out, HXL.out]
            have := HLN.out
            omega
          have HO7 := Lib.hid ho7
          have HL7 := Lib.hid hl7
          clear hown7 hg7 hlt5 hk7 hb7 ho7 hl7 HOW HRA HZ HXL HBU
          go_wp2_with fail
          go_roundw
          case rel => exact ⟨k + 1, L ++ x, by omega, by go_num, HO7.out, HL7.out, HB7.out, by omega⟩
          case measure => simp [intOf]; omega
        · have hnl : n5 ≤ 2000007 := by have := HLN.out; omega
          obtain ⟨w6, hw6⟩ : ∃ w6, w6 = wr := ⟨_, rfl⟩
          rw [← hw6] at HBU HOW hwu ⊢
          have HR6 := Lib.hid (Row.ofOwn HOW.out (S := Lt w6.heap.size) fun _ _ _ h => h)
          clear hw6 HOW
          go_wp2_with fail
          go_loopw [15] (fun i u => ∃ p : Nat, p ≤ n5 ∧ i = .int .i64 p ∧ Below w6.heap.size w6 u) (fun i _ => n5 - (intOf i).toNat)
          case atStart => exact ⟨0, by omega, rfl, Below.refl _ _⟩
          case round =>
            obtain ⟨p, hpn, rfl, hB⟩ := hrel
            have HB6 := Lib.hid hB
            have HRW := Lib.hid (HR6.out.below hB)
            clear hB
            by_cases hlp : p < n5
            · obtain ⟨b, hb⟩ : ∃ b, L[p]? = some b := ⟨_, List.getElem?_eq_getElem (by rw [← HN5.out]; exact hlp)⟩
              obtain ⟨ad, hA, _, a0, _⟩ := bd_at HRW.out hb
              subst hA
              have hmm := mlook_any L b.1 (some ad) lc5 wr (by rw [← HN5.out]; omega) HRW.out
              rw [← HN5.out] at hmm
              have HMM := Lib.hid hmm
              have A0 := Lib.hid a0
              have hik : (0 : Int) ≤ (p : Int) ∧ (p : Int) < (n5 : Int) := ⟨by omega, by omega⟩
              clear hmm hb
              go_wp2_with fail
              refine HMM.out.mono ?_
              rintro e w7 ⟨d, n, rfl, hlk, hb7⟩
              have hrr := rlook_any L b.1 (some ad) lc5 w7 (by rw [← HN5.out]; omega) (HRW.out.below hb7)
              rw [← HN5.out] at hrr
              have HRR := Lib.hid hrr
              have HLK := Lib.hid hlk
              have HB7 := Lib.hid hb7
              have a0 := (hb7.cell (block_lt_of_cell A0.out)).trans A0.out
              clear hrr hlk hb7 HMM
              go_wp2_with fail
              refine HRR.out.mono ?_
              rintro e w8 ⟨d', n', rfl, hlk, hb8⟩
              obtain ⟨rfl, rfl⟩ := HLK.out.unique hlk
              have HB8 := Lib.hid (HB6.out.trans ((HB7.out.trans (hb8.mono HB7.out.size)).mono HB6.out.size))
              have hq : ((bs d).toList == (bs d).toList) = true := by simp
              clear hlk hb8 HRR a0
              go_wp2_with fail
              go_roundw
              case rel => exact ⟨p + 1, by omega, by go_num, HB8.out⟩
              case measure => simp [intOf]; omega
            · go_wp2_with fail
              refine (awake_any wr).mono ?_
              rintro e wz ⟨rfl, hbz⟩
              have hbb := HBU.out.trans (HB6.out.mono HBU.out.size)
              have HBz := Lib.hid (hbb.trans (hbz.mono hbb.size))
              clear hbz hbb
              go_wp2
              go_ret
              exact ⟨rfl, HBz.out⟩

theorem law_all (l0 : List Face) (bl : List (List Key)) (xs : List Int) (RA BA TA : Option Addr) (rc bc tc : Nat) (w : World) (h0 : FcsV w (Lt w.heap.size) (.slice RA l0.length rc) l0) (h1 : BdssV w (Lt w.heap.size) (.slice BA bl.length bc) bl)
    (hA : Row w (Lt w.heap.size) TA (xs.map (Value.int .i64))) (hf : ∀ x ∈ xs, -9223372036854775808 ≤ x ∧ x ≤ 9223372036854775807) (hfit : l0.length ≤ 12 → Fit l0) (hown : ∀ f ∈ l0, f.own.length ≤ 50000000) (hsum : (bl.map (·.length)).sum ≤ 2000000) :
    Calls Try.prog 3 #[.slice RA l0.length rc, .slice BA bl.length bc, .slice TA xs.length tc] w fun e w' => e = .returned (.bool true) ∧ Below w.heap.size w w' := by
  by_cases h : xs.length ≤ 400 ∧ l0.length ≤ 12 ∧ bl.length ≤ 12
  · exact binds_light l0 bl xs RA BA TA rc bc tc w h0 h1 hA hf h.1 h.2.1 h.2.2 (hfit h.2.1) hown hsum
  · exact binds_heavy _ _ _ RA BA TA rc bc tc w h
end Go.Proofs.Ytcliegpofhjpcaa
