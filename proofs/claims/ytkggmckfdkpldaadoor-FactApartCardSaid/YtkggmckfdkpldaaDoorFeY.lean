/-
  The walk of ref10.SameSignature.
  Conditions: the arguments read as signatures whose lists have at most 4000000 elements.
-/
import Derived.Test.YtkggmckfdkpldaaDoorFeQ
import Derived.Test.YtkggmckfdkpldaaDoorBtwk
namespace Go.Proofs.YtkggmckfdkpldaaDoor
open Go.RowKit

/-- Lists of a signature that are not too long. -/
structure SgFew (x : SgF) : Prop where
  params : x.params.length ≤ 4000000
  names : x.names.length ≤ 4000000
  args : x.args.length ≤ 4000000
theorem txt_at {w : World} {S : Nat → Prop} {A : Option Addr} {l : List (List UInt8)} {i : Nat} {x : List UInt8} (h : Row w S A (l.map sv)) (hi : l[i]? = some x) : ∃ ad, A = some ad ∧ S ad.block ∧ w.cell? (ad.add i) = some (sv x) := h.at_ (by simp [hi])

set_option maxHeartbeats 3200000 in
set_option maxRecDepth 100000 in
theorem sameSig_any (x y : SgF) (p q : SgP) (w : World) (hx : SgPs w (Lt w.heap.size) x p) (hy : SgPs w (Lt w.heap.size) y q) (fx : SgFew x) (fy : SgFew y) :
    Calls Tryd.prog 11 #[sgV x p, sgV y q] w (Says (x = y) w) := by
  obtain ⟨PP, hPP⟩ : ∃ PP : Prop, PP = (x = y) := ⟨_, rfl⟩
  rw [← hPP]
  have HNO : Hid (∀ (w' : World), Below w.heap.size w w' → x ≠ y → Hid (Says PP w (.returned (.bool false)) w')) := Lib.hid fun w' hb hne => Lib.hid ⟨false, rfl, ⟨(fun e => by cases e), fun e => absurd (by rw [← hPP]; exact e) hne⟩, hb⟩
  have HPP := Lib.hid hPP
  clear hPP
  obtain ⟨xk, xp, xn, xa, xr, xt⟩ := x
  obtain ⟨yk, yp, yn, ya, yr, yt⟩ := y
  obtain ⟨p1, p2, p3, p4, p5⟩ := p
  obtain ⟨q1, q2, q3, q4, q5⟩ := q
  obtain ⟨PA, pc, h1, hP⟩ := hx.params
  obtain ⟨NA, nc, h2, hN⟩ := hx.names
  obtain ⟨TA, tc, us, h3, hl1, hm1, hT⟩ := hx.args
  have hR := hx.result
  obtain ⟨rn, ra, h4, h5⟩ := hR.shape
  obtain ⟨PB, pd, g1, hP2⟩ := hy.params
  obtain ⟨NB, nd, g2, hN2⟩ := hy.names
  obtain ⟨TB, td, vs, g3, hl2, hm2, hT2⟩ := hy.args
  have hR2 := hy.result
  obtain ⟨sn, sa, g4, g5⟩ := hR2.shape
  obtain ⟨fp, fn, fa⟩ := fx
  obtain ⟨fp2, fn2, fa2⟩ := fy
  simp only at h1 h2 h3 h4 h5 g1 g2 g3 g4 g5 hP hN hT hP2 hN2 hT2 hl1 hl2 fp fn fa fp2 fn2 fa2 hR hR2 HNO HPP
  obtain ⟨pn, hpn⟩ : ∃ n, n = xp.length := ⟨_, rfl⟩
  obtain ⟨nn, hnn⟩ : ∃ n, n = xn.length := ⟨_, rfl⟩
  obtain ⟨tn, htn⟩ : ∃ n, n = xa.length := ⟨_, rfl⟩
  obtain ⟨pm, hpm⟩ : ∃ n, n = yp.length := ⟨_, rfl⟩
  obtain ⟨nm, hnm⟩ : ∃ n, n = yn.length := ⟨_, rfl⟩
  obtain ⟨tm, htm⟩ : ∃ n, n = ya.length := ⟨_, rfl⟩
  rw [← hpn] at h1
  rw [← hnn] at h2
  rw [← htn] at h3
  rw [← hpm] at g1
  rw [← hnm] at g2
  rw [← htm] at g3
  subst h1 h2 h3 h4 h5 g1 g2 g3 g4 g5
  have fnn : nn ≤ 4000000 := by omega
  have HPN := Lib.hid hpn
  have HNN := Lib.hid hnn
  have HTN := Lib.hid htn
  have HPM := Lib.hid hpm
  have HNM := Lib.hid hnm
  have HTM := Lib.hid htm
  have HP := Lib.hid hP
  have HN := Lib.hid hN
  have HT := Lib.hid hT
  have HR := Lib.hid hR
  have HP2 := Lib.hid hP2
  have HN2 := Lib.hid hN2
  have HT2 := Lib.hid hT2
  have HR2 := Lib.hid hR2
  have HL1 := Lib.hid (And.intro hl1 hm1)
  have HL2 := Lib.hid (And.intro hl2 hm2)
  have FP := Lib.hid fp
  have FA := Lib.hid fa
  have FA2 := Lib.hid fa2
  clear hx hy hpn hnn htn hpm hnm htm hP hN hT hR hP2 hN2 hT2 hR2 hl1 hm1 hl2 hm2 fp fn fa fp2 fn2 fa2
  obtain ⟨wa, hwa⟩ : ∃ wa, wa = (w.alloc (.cells #[iv xk, .slice PA pn pc, .slice NA nn nc, .slice TA tn tc, sv rn, .slice ra.1 ra.2.1 ra.2.2, sv xt] 33)).alloc (.cells #[iv yk, .slice PB pm pd, .slice NB nm nd, .slice TB tm td, sv sn, .slice sa.1 sa.2.1 sa.2.2, sv yt] 33) := ⟨_, rfl⟩
  have hba : Below w.heap.size w wa := by rw [hwa]; exact ((Below.refl _ _).alloc (Nat.le_refl _) _).alloc (by simp) _
  obtain ⟨CL, hCL⟩ : ∃ CL, CL = [((⟨w.heap.size, 0, none⟩ : Addr), iv xk), (⟨w.heap.size, 1, none⟩, .slice PA pn pc), (⟨w.heap.size, 2, none⟩, .slice NA nn nc), (⟨w.heap.size, 3, none⟩, .slice TA tn tc), (⟨w.heap.size, 4, none⟩, sv rn), (⟨w.heap.size, 5, none⟩, .slice ra.1 ra.2.1 ra.2.2), (⟨w.heap.size, 6, none⟩, sv xt), (⟨w.heap.size + 1, 0, none⟩, iv yk), (⟨w.heap.size + 1, 1, none⟩, .slice PB pm pd), (⟨w.heap.size + 1, 2, none⟩, .slice NB nm nd), (⟨w.heap.size + 1, 3, none⟩, .slice TB tm td), (⟨w.heap.size + 1, 4, none⟩, sv sn), (⟨w.heap.size + 1, 5, none⟩, .slice sa.1 sa.2.1 sa.2.2), (⟨w.heap.size + 1, 6, none⟩, sv yt)] := ⟨_, rfl⟩
  have hca : AtCells CL wa := by
    rw [hwa, hCL]
    have hh := alloc2 w (.cells #[iv xk, .slice PA pn pc, .slice NA nn nc, .slice TA tn tc, sv rn, .slice ra.1 ra.2.1 ra.2.2, sv xt] 33) (.cells #[iv yk, .slice PB pm pd, .slice NB nm nd, .slice TB tm td, sv sn, .slice sa.1 sa.2.1 sa.2.2, sv yt] 33)
    refine ⟨?_, ?_, ?_, ?_, ?_, ?_, ?_, ?_, ?_, ?_, ?_, ?_, ?_, ?_, trivial⟩ <;> first | exact (Lib.cell_of_heap hh.1 _).trans rfl | exact (Lib.cell_of_heap hh.2 _).trans rfl
  have HBA := Lib.hid hba
  have HCA := Lib.hid hca
  have HCL := Lib.hid hCL
  clear hba hca hCL
  by_cases e0 : xk = yk
  · subst e0
    by_cases e5 : xt = yt
    · subst e5
      have hbe : ((bs xt).toList == (bs xt).toList) = true := by simp
      have hbn : ((bs xt).toList != (bs xt).toList) = false := by simp
      have HC1 := Lib.hid (sameParams_any xp yp PA PB pc pd wa FP.out ((HP.out.keep (kept_below HBA.out)).more fun _ hz => Nat.lt_of_lt_of_le hz HBA.out.size) ((HP2.out.keep (kept_below HBA.out)).more fun _ hz => Nat.lt_of_lt_of_le hz HBA.out.size))
      rw [← HPN.out, ← HPM.out] at HC1
      go_enter Tryd.func11, Tryd.ntmps11
      go_wp2_with fail
      rw [← hwa]
      clear hwa
      refine HC1.out.mono ?_
      rintro e w1 ⟨r, rfl, hr, hb⟩
      have HB1 := Lib.hid (HBA.out.trans (hb.mono HBA.out.size))
      have HC : Hid (AtCells CL w1) := Lib.hid (HCA.out.below hb)
      have HQ := Lib.hid hr
      clear hr hb HC1 HCA
      have hcc := HC.out
      rw [HCL.out] at hcc
      obtain ⟨x0, x1, x2, x3, x4, x5, x6, y0, y1, y2, y3, y4, y5, y6, _⟩ := hcc
      cases r with
      | false =>
        have HRES := HNO.out w1 HB1.out (fun e => by have h := HQ.out.2 (congrArg SgF.params e); cases h)
        clear HNO
        go_wp2
        go_ret
        exact HRES.out
      | true =>
      have HE1 := Lib.hid (HQ.out.1 rfl)
      clear HQ
      go_wp2_with fail
      refine (refSame_any xr yr _ _ _ _ w1 ((HR.out.keep (kept_below HB1.out)).more fun _ hz => Nat.lt_of_lt_of_le hz HB1.out.size) ((HR2.out.keep (kept_below HB1.out)).more fun _ hz => Nat.lt_of_lt_of_le hz HB1.out.size)).mono ?_
      rintro e w2 ⟨r, rfl, hr, hb⟩
      have HB2 := Lib.hid (HB1.out.trans (hb.mono HB1.out.size))
      have HC2 : Hid (AtCells CL w2) := Lib.hid (HC.out.below hb)
      have HQ := Lib.hid hr
      clear hr hb HC HB1 x0 x1 x2 x3 x4 x5 x6 y0 y1 y2 y3 y4 y5 y6
      have hcc := HC2.out
      rw [HCL.out] at hcc
      obtain ⟨x0, x1, x2, x3, x4, x5, x6, y0, y1, y2, y3, y4, y5, y6, _⟩ := hcc
      cases r with
      | false =>
        have HRES := HNO.out w2 HB2.out (fun e => by have h := HQ.out.2 (congrArg SgF.result e); cases h)
        clear HNO
        go_wp2
        go_ret
        exact HRES.out
      | true =>
      have HE2 := Lib.hid (HQ.out.1 rfl)
      clear HQ
      have HC1 := Lib.hid (sameList_any xa ya TA TB tc td us vs w2 FA.out FA2.out HL1.out HL2.out (HT.out.now (Nat.le_refl _) HB2.out) (HT2.out.now (Nat.le_refl _) HB2.out))
      rw [← HTN.out, ← HTM.out] at HC1
      go_wp2_with fail
      refine HC1.out.mono ?_
      rintro e w3 ⟨r, rfl, hr, hb⟩
      have HB3 := Lib.hid (HB2.out.trans (hb.mono HB2.out.size))
      have HC3 : Hid (AtCells CL w3) := Lib.hid (HC2.out.below hb)
      have HQ := Lib.hid hr
      clear hr hb HC2 HB2 HC1 x0 x1 x2 x3 x4 x5 x6 y0 y1 y2 y3 y4 y5 y6
      have hcc := HC3.out
      rw [HCL.out] at hcc
      obtain ⟨x0, x1, x2, x3, x4, x5, x6, y0, y1, y2, y3, y4, y5, y6, _⟩ := hcc
      cases r with
      | false =>
        have HRES := HNO.out w3 HB3.out (fun e => by have h := HQ.out.2 (congrArg SgF.args e); cases h)
        clear HNO
        go_wp2
        go_ret
        exact HRES.out
      | true =>
      have HE3 := Lib.hid (HQ.out.1 rfl)
      clear HQ
      by_cases hnm : nn = nm
      · subst hnm
        go_wp2_with fail
        clear x0 x1 x2 x3 x4 x5 x6 y0 y1 y2 y3 y4 y5 y6
        go_loopw [5] (fun i wr => ∃ k : Nat, k ≤ nn ∧ i = .int .i64 k ∧ Below w3.heap.size w3 wr ∧ xn.take k = yn.take k) (fun i _ => nn - (intOf i).toNat)
        case atStart => exact ⟨0, by omega, rfl, Below.refl _ _, rfl⟩
        case round =>
          obtain ⟨k, hkm, rfl, hB, hK⟩ := hrel
          have HK := Lib.hid hK
          have HBW := Lib.hid (HB3.out.trans (hB.mono HB3.out.size))
          have hcc := HC3.out.below hB
          have HCW := Lib.hid hcc
          rw [HCL.out] at hcc
          obtain ⟨x0, x1, x2, x3, x4, x5, x6, y0, y1, y2, y3, y4, y5, y6, _⟩ := hcc
          clear hK
          by_cases hlt : k < nn
          · obtain ⟨a, ha⟩ : ∃ x, xn[k]? = some x := ⟨_, List.getElem?_eq_getElem (by rw [← HNN.out]; exact hlt)⟩
            obtain ⟨b, hb⟩ : ∃ x, yn[k]? = some x := ⟨_, List.getElem?_eq_getElem (by rw [← HNM.out]; exact hlt)⟩
            obtain ⟨ad, hA, hsa, a0⟩ := txt_at (HN.out.keep (kept_below HBW.out)) ha
            obtain ⟨be, hA2, hsb, b0⟩ := txt_at (HN2.out.keep (kept_below HBW.out)) hb
            have hik : (0 : Int) ≤ (k : Int) ∧ (k : Int) < (nn : Int) := ⟨by omega, by omega⟩
            have HX := Lib.hid ha
            have HY := Lib.hid hb
            have HBR := Lib.hid hB
            rw [hA] at x2
            rw [hA2] at y2
            have HCC : Hid (AtCells [(⟨w.heap.size, 2, none⟩, .slice (some ad) nn nc), (⟨w.heap.size + 1, 2, none⟩, .slice (some be) nn nd), (ad.add k, sv a), (be.add k, sv b)] wr) := Lib.hid ⟨x2, y2, a0, b0, trivial⟩
            clear ha hb hB hsa hsb a0 b0 hA hA2
            go_wp2_with fail
            refine wp_region_held' (AtCells [(⟨w.heap.size, 2, none⟩, .slice (some ad) nn nc), (⟨w.heap.size + 1, 2, none⟩, .slice (some be) nn nd), (ad.add k, sv a), (be.add k, sv b)]) [] [0, 1, 2, 3, 4, 5, 6, 7, 8, 9, 10] [] [] (by kernel_rfl) (by kernel_rfl) ?sa ?ha
            case sa => exact HCC.out.below (Below.refl _ wr).drew
            case ha =>
            clear HCC x0 x1 x2 x3 x4 x5 x6 y0 y1 y2 y3 y4 y5 y6
            simp only [opsAt, List.filterMap_cons, List.filterMap_nil, List.getElem?_toArray, List.getElem?_cons_succ, List.getElem?_cons_zero]
            refine wpFloat_nil ?_
            refine wpLoad_step ?va0 rfl (fun w' hS => ?ya0) ?ka0
            case ya0 =>
              obtain ⟨g0, g1, g2, g3, _⟩ := hS
              go_simp
              try rfl
            case ka0 =>
            go_simp
            refine wpLoad_step ?va1 rfl (fun w' hS => ?ya1) ?ka1
            case ya1 =>
              obtain ⟨g0, g1, g2, g3, _⟩ := hS
              go_simp
              try rfl
            case ka1 =>
            go_simp
            refine wpLoad_step ?va2 rfl (fun w' hS => ?ya2) ?ka2
            case ya2 =>
              obtain ⟨g0, g1, g2, g3, _⟩ := hS
              go_simp
              try rfl
            case ka2 =>
            go_simp
            refine wpLoad_step ?va3 rfl (fun w' hS => ?ya3) ?ka3
            case ya3 =>
              obtain ⟨g0, g1, g2, g3, _⟩ := hS
              go_simp
              try rfl
            case ka3 =>
            go_simp
            refine wpLoad_step ?va4 rfl (fun w' hS => ?ya4) ?ka4
            case ya4 =>
              obtain ⟨g0, g1, g2, g3, _⟩ := hS
              go_simp
              try rfl
            case ka4 =>
            go_simp
            refine wpLoad_step ?va5 rfl (fun w' hS => ?ya5) ?ka5
            case ya5 =>
              obtain ⟨g0, g1, g2, g3, _⟩ := hS
              go_simp
              try rfl
            case ka5 =>
            go_simp
            refine wpLoad_step ?va6 rfl (fun w' hS => ?ya6) ?ka6
            case ya6 =>
              obtain ⟨g0, g1, g2, g3, _⟩ := hS
              go_simp
              try rfl
            case ka6 =>
            go_simp
            refine wpLoad_step ?va7 rfl (fun w' hS => ?ya7) ?ka7
            case ya7 =>
              obtain ⟨g0, g1, g2, g3, _⟩ := hS
              go_simp
              try rfl
            case ka7 =>
            go_simp
            refine wpLoad_step ?va8 rfl (fun w' hS => ?ya8) ?ka8
            case ya8 =>
              obtain ⟨g0, g1, g2, g3, _⟩ := hS
              go_simp
              try rfl
            case ka8 =>
            go_simp
            refine wpLoad_step ?va9 rfl (fun w' hS => ?ya9) ?ka9
            case ya9 =>
              obtain ⟨g0, g1, g2, g3, _⟩ := hS
              go_simp
              try rfl
            case ka9 =>
            go_simp
            refine wpLoad_step (.bool (!decide (a = b))) rfl (fun w' hS => ?ya10) ?ka10
            case ya10 =>
              go_simp
              simp only [toListBs]
              by_cases h1 : a = b <;> simp [h1]
            case ka10 =>
            by_cases he : a = b
            · have hq : decide (a = b) = true := decide_eq_true he
              have HE := Lib.hid he
              rw [hq]
              clear hq he
              refine wpLoad_nil ?_
              refine wpKeep_nil ?_
              go_wp2
              refine NoPanic.normal ?_
              go_wp2
              go_roundw
              case rel => exact ⟨k + 1, by omega, by go_num, HBR.out.drew, take_next HK.out HX.out HY.out HE.out⟩
              case measure => simp [intOf]; omega
            · have hq : decide (a = b) = false := decide_eq_false he
              have HE := Lib.hid he
              rw [hq]
              clear hq he
              refine wpLoad_nil ?_
              refine wpKeep_nil ?_
              have HRES := HNO.out wr.drew HBW.out.drew fun e => by
                have e1 := HX.out
                rw [show xn = yn from congrArg SgF.names e, HY.out] at e1
                exact absurd (Option.some.inj e1).symm HE.out
              go_wp2
              refine NoPanic.normal ?_
              go_wp2
              go_ret
              exact HRES.out
          · obtain rfl : k = nn := by omega
            have HRES : Hid (Says PP w (.returned (.bool true)) wr) := Lib.hid ⟨true, rfl, ⟨fun _ => by rw [HPP.out, HE1.out, HE2.out, HE3.out, take_same HNN.out.symm HNM.out.symm HK.out], fun _ => rfl⟩, HBW.out⟩
            clear hB
            go_wp2
            go_ret
            exact HRES.out
      · have hq : ((nn : Int) != (nm : Int)) = true := by simp; omega
        have hq2 : ((nn : Int) == (nm : Int)) = false := by simp; omega
        have hq3 : ¬ (nn : Int) = (nm : Int) := by omega
        have HRES := HNO.out w3 HB3.out (fun e => hnm (by rw [HNN.out, HNM.out]; exact congrArg (fun z => z.names.length) e))
        clear HNO
        go_wp2
        go_ret
        exact HRES.out
    · have hbe : ((bs xt).toList == (bs yt).toList) = false := bytesDiff e5
      have hbn : ((bs xt).toList != (bs yt).toList) = true := by rw [bne, hbe]; rfl
      have HRES := HNO.out wa HBA.out fun e => e5 (congrArg SgF.trt e)
      clear HNO
      go_enter Tryd.func11, Tryd.ntmps11
      go_wp2
      rw [← hwa]
      go_ret
      exact HRES.out
  · have hq : (xk == yk) = false := by simp [e0]
    have hq2 : (xk != yk) = true := by simp [e0]
    have HRES := HNO.out wa HBA.out fun e => e0 (congrArg SgF.kind e)
    clear HNO
    go_enter Tryd.func11, Tryd.ntmps11
    go_wp2
    rw [← hwa]
    go_ret
    exact HRES.out
end Go.Proofs.YtkggmckfdkpldaaDoor
