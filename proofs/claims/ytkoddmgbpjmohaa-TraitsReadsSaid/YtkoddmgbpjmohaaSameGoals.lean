/-
  The walk of recompileref10.SameGoals.
  Conditions: each list has at most 1000000 goals.
-/
import Derived.Test.YtkoddmgbpjmohaaRefSame
import Derived.Test.YtkoddmgbpjmohaaLeadsA
namespace Go.Proofs.Ytkoddmgbpjmohaa
open Go.RowKit

theorem wpLoad_skip {P : Program} {ops : Array Oper} {S : World → Prop} {o : Oper} {r : List Oper} {a : Act} {K : Act → Prop} (hw : Region.wanted o (yielded ops a.tmps) = false) (h : wpLoad P ops S K r (a.put o.dst undef)) : wpLoad P ops S K (o :: r) a :=
  ⟨undef, .inr ⟨hw, rfl⟩, h⟩

set_option maxHeartbeats 8000000 in
set_option maxRecDepth 100000 in
theorem sameGoals_any (gs hs : List Goal) (A A' : Option Addr) (c c' : Nat) (vs vs' : List GV) (w : World) (hG : Gls w (Lt w.heap.size) A gs vs) (hH : Gls w (Lt w.heap.size) A' hs vs') (hz : gs.length ≤ 1000000) :
    Calls Try.prog 7 #[.slice A gs.length c, .slice A' hs.length c'] w (Says (gs = hs) w) := by
  by_cases hll : gs.length = hs.length
  · obtain ⟨m, hm⟩ : ∃ m, m = gs.length := ⟨_, rfl⟩
    rw [← hll, ← hm]
    rw [← hm] at hz
    have HM := Lib.hid hm
    have HL := Lib.hid hll
    clear hm hll
    go_enter Try.func7, Try.ntmps7
    go_wp2_with fail
    go_loopw [5] (fun i wr => ∃ k : Nat, k ≤ m ∧ i = .int .i64 k ∧ gs.take k = hs.take k ∧ Below w.heap.size w wr) (fun i _ => m - (intOf i).toNat)
    case atStart => exact ⟨0, Nat.zero_le _, rfl, rfl, Below.refl _ _⟩
    case round =>
      obtain ⟨k, hk, rfl, hx, hb⟩ := hrel
      have HX := Lib.hid hx
      have HBB := Lib.hid hb
      clear hx
      by_cases hlt : k < m
      · have hki : k < gs.length := by rw [← HM.out]; exact hlt
        have hki' : k < hs.length := by rw [← HL.out]; exact hki
        have hs1 : gs.take (k + 1) = gs.take k ++ [gs[k]] := List.take_succ_eq_append_getElem hki
        have hs2 : hs.take (k + 1) = hs.take k ++ [hs[k]] := List.take_succ_eq_append_getElem hki'
        obtain ⟨ad, q, rfl, hS, _, e0, e1, e2, hg⟩ := (hG.now (Nat.le_refl _) hb).at_ (List.getElem?_eq_getElem hki)
        obtain ⟨ad', q', rfl, hS', _, f0, f1, f2, hh⟩ := (hH.now (Nat.le_refl _) hb).at_ (List.getElem?_eq_getElem hki')
        generalize gs[k] = x at hs1 hg
        generalize hs[k] = y at hs2 hh
        obtain ⟨q0, q1, q2⟩ := q
        obtain ⟨p0, p1, p2⟩ := q'
        obtain ⟨hgt, hgy⟩ := hg
        obtain ⟨hht, hhy⟩ := hh
        simp only at hgt hgy hht hhy e0 e1 e2 f0 f1 f2
        subst hgt hht
        obtain ⟨un, va, rfl, rfl⟩ := hgy.shape
        obtain ⟨un', va', rfl, rfl⟩ := hhy.shape
        have HCALL := Lib.hid (refSame_any x.2 y.2 _ _ _ _ wr.drew (hgy.keep fun _ _ => rfl) (hhy.keep fun _ _ => rfl))
        have HS1 := Lib.hid hs1
        have HS2 := Lib.hid hs2
        clear hs1 hs2 hgy hhy
        have hik : (0 : Int) ≤ (k : Int) ∧ (k : Int) < (m : Int) := ⟨by omega, by omega⟩
        by_cases hxy : x.1 = y.1
        · have hbn : ((bs x.1).toList != (bs y.1).toList) = false := by rw [hxy]; simp
          have HXY := Lib.hid hxy
          clear hxy
          go_wp2_with fail
          refine wp_region_held' (fun w' => w'.cell? (ad.add (k * 3)) = some (sv x.1) ∧ w'.cell? ⟨(ad.add (k * 3)).block, (ad.add (k * 3)).off + 1, none⟩ = some (sv un) ∧ w'.cell? ⟨(ad.add (k * 3)).block, (ad.add (k * 3)).off + 2, none⟩ = some (.slice va.1 va.2.1 va.2.2) ∧ w'.cell? (ad'.add (k * 3)) = some (sv y.1) ∧ w'.cell? ⟨(ad'.add (k * 3)).block, (ad'.add (k * 3)).off + 1, none⟩ = some (sv un') ∧ w'.cell? ⟨(ad'.add (k * 3)).block, (ad'.add (k * 3)).off + 2, none⟩ = some (.slice va'.1 va'.2.1 va'.2.2)) [] [0, 1, 2, 3, 4, 5, 6, 7, 8, 9, 10, 11, 12, 13, 14, 15, 16, 17, 18, 19, 20, 21] [22] [23, 24] (by kernel_rfl) (by kernel_rfl) ?sb ?hb
          case sb => exact ⟨e0, e1, e2, f0, f1, f2⟩
          case hb =>
            simp only [opsAt, List.filterMap_cons, List.filterMap_nil, List.getElem?_toArray, List.getElem?_cons_succ, List.getElem?_cons_zero]
            refine wpFloat_nil ?_
            refine wpLoad_step ?vb0 rfl (fun w' hS => ?yb0) ?kb0
            case yb0 =>
              obtain ⟨h1, h2, h3, h4, h5, h6⟩ := hS
              go_simp
              try rfl
            case kb0 =>
            go_simp
            refine wpLoad_step ?vb1 rfl (fun w' hS => ?yb1) ?kb1
            case yb1 =>
              obtain ⟨h1, h2, h3, h4, h5, h6⟩ := hS
              go_simp
              try rfl
            case kb1 =>
            go_simp
            refine wpLoad_step ?vb2 rfl (fun w' hS => ?yb2) ?kb2
            case yb2 =>
              obtain ⟨h1, h2, h3, h4, h5, h6⟩ := hS
              go_simp
              try rfl
            case kb2 =>
            go_simp
            refine wpLoad_step ?vb3 rfl (fun w' hS => ?yb3) ?kb3
            case yb3 =>
              obtain ⟨h1, h2, h3, h4, h5, h6⟩ := hS
              go_simp
              try rfl
            case kb3 =>
            go_simp
            refine wpLoad_step ?vb4 rfl (fun w' hS => ?yb4) ?kb4
            case yb4 =>
              obtain ⟨h1, h2, h3, h4, h5, h6⟩ := hS
              go_simp
              try rfl
            case kb4 =>
            go_simp
            refine wpLoad_step ?vb5 rfl (fun w' hS => ?yb5) ?kb5
            case yb5 =>
              obtain ⟨h1, h2, h3, h4, h5, h6⟩ := hS
              go_simp
              try rfl
            case kb5 =>
            go_simp
            refine wpLoad_step ?vb6 rfl (fun w' hS => ?yb6) ?kb6
            case yb6 =>
              obtain ⟨h1, h2, h3, h4, h5, h6⟩ := hS
              go_simp
              try rfl
            case kb6 =>
            go_simp
            refine wpLoad_step ?vb7 rfl (fun w' hS => ?yb7) ?kb7
            case yb7 =>
              obtain ⟨h1, h2, h3, h4, h5, h6⟩ := hS
              go_simp
              try rfl
            case kb7 =>
            go_simp
            refine wpLoad_step ?vb8 rfl (fun w' hS => ?yb8) ?kb8
            case yb8 =>
              obtain ⟨h1, h2, h3, h4, h5, h6⟩ := hS
              go_simp
              try rfl
            case kb8 =>
            go_simp
            refine wpLoad_step ?vb9 rfl (fun w' hS => ?yb9) ?kb9
            case yb9 =>
              obtain ⟨h1, h2, h3, h4, h5, h6⟩ := hS
              go_simp
              try rfl
            case kb9 =>
            go_simp
            refine wpLoad_step (.bool false) rfl (fun w' hS => ?yb10) ?kb10
            case yb10 =>
              obtain ⟨h1, h2, h3, h4, h5, h6⟩ := hS
              go_simp
              first | exact hbn | (simpa [bne] using hbn)
            case kb10 =>
            go_simp
            refine wpLoad_step ?vb11 rfl (fun w' hS => ?yb11) ?kb11
            case yb11 =>
              obtain ⟨h1, h2, h3, h4, h5, h6⟩ := hS
              go_simp
              try rfl
            case kb11 =>
            go_simp
            refine wpLoad_step ?vb12 rfl (fun w' hS => ?yb12) ?kb12
            case yb12 =>
              obtain ⟨h1, h2, h3, h4, h5, h6⟩ := hS
              go_simp
              try rfl
            case kb12 =>
            go_simp
            refine wpLoad_step ?vb13 rfl (fun w' hS => ?yb13) ?kb13
            case yb13 =>
              obtain ⟨h1, h2, h3, h4, h5, h6⟩ := hS
              go_simp
              try rfl
            case kb13 =>
            go_simp
            refine wpLoad_step ?vb14 rfl (fun w' hS => ?yb14) ?kb14
            case yb14 =>
              obtain ⟨h1, h2, h3, h4, h5, h6⟩ := hS
              go_simp
              try rfl
            case kb14 =>
            go_simp
            refine wpLoad_step ?vb15 rfl (fun w' hS => ?yb15) ?kb15
            case yb15 =>
              obtain ⟨h1, h2, h3, h4, h5, h6⟩ := hS
              go_simp
              try rfl
            case kb15 =>
            go_simp
            refine wpLoad_step ?vb16 rfl (fun w' hS => ?yb16) ?kb16
            case yb16 =>
              obtain ⟨h1, h2, h3, h4, h5, h6⟩ := hS
              go_simp
              try rfl
            case kb16 =>
            go_simp
            refine wpLoad_step ?vb17 rfl (fun w' hS => ?yb17) ?kb17
            case yb17 =>
              obtain ⟨h1, h2, h3, h4, h5, h6⟩ := hS
              go_simp
              try rfl
            case kb17 =>
            go_simp
            refine wpLoad_step ?vb18 rfl (fun w' hS => ?yb18) ?kb18
            case yb18 =>
              obtain ⟨h1, h2, h3, h4, h5, h6⟩ := hS
              go_simp
              try rfl
            case kb18 =>
            go_simp
            refine wpLoad_step ?vb19 rfl (fun w' hS => ?yb19) ?kb19
            case yb19 =>
              obtain ⟨h1, h2, h3, h4, h5, h6⟩ := hS
              go_simp
              try rfl
            case kb19 =>
            go_simp
            refine wpLoad_step ?vb20 rfl (fun w' hS => ?yb20) ?kb20
            case yb20 =>
              obtain ⟨h1, h2, h3, h4, h5, h6⟩ := hS
              go_simp
              try rfl
            case kb20 =>
            go_simp
            refine wpLoad_step ?vb21 rfl (fun w' hS => ?yb21) ?kb21
            case yb21 =>
              obtain ⟨h1, h2, h3, h4, h5, h6⟩ := hS
              go_simp
              try rfl
            case kb21 =>
            go_simp
            refine wpLoad_nil ?_
            refine wpKeep_step rfl ?_
            go_simp
            refine HCALL.out.mono ?_
            rintro e w1 ⟨r, rfl, hr, hb1⟩
            have hba : ∀ p : Addr, p.block < wr.heap.size → w1.cell? p = wr.cell? p := fun p hp => World.cell?_of_block (hb1.block _ hp)
            have hd0 : Below wr.heap.size wr wr.drew := (Below.refl _ _).drew
            have HB1 := Lib.hid (HBB.out.trans ((hd0.trans hb1).mono HBB.out.size))
            have HR := Lib.hid hr
            refine ⟨⟨(hba _ (by rw [blkAdd]; exact hS)).trans e0, (hba ⟨(ad.add (k * 3)).block, (ad.add (k * 3)).off + 1, none⟩ (by rw [blkAdd]; exact hS)).trans e1, (hba ⟨(ad.add (k * 3)).block, (ad.add (k * 3)).off + 2, none⟩ (by rw [blkAdd]; exact hS)).trans e2, (hba _ (by rw [blkAdd]; exact hS')).trans f0, (hba ⟨(ad'.add (k * 3)).block, (ad'.add (k * 3)).off + 1, none⟩ (by rw [blkAdd]; exact hS')).trans f1, (hba ⟨(ad'.add (k * 3)).block, (ad'.add (k * 3)).off + 2, none⟩ (by rw [blkAdd]; exact hS')).trans f2⟩, ?_⟩
            clear hb1 hr hba hd0
            refine wpKeep_nil ?_
            cases r with
            | true =>
              have HE := Lib.hid (HR.out.1 rfl)
              go_wp2
              refine NoPanic.normal ?_
              go_wp2
              go_roundw
              case rel => exact ⟨k + 1, by omega, by go_num, by rw [HS1.out, HS2.out, HX.out, show x = y from Prod.ext HXY.out HE.out], HB1.out⟩
              case measure => simp [intOf]; omega
            | false =>
              have HNE : Hid (¬ gs = hs) := Lib.hid fun e => by
                have e2 := HS1.out.symm.trans ((congrArg (List.take (k + 1)) e).trans HS2.out)
                have e3 := (List.append_inj' e2 rfl).2
                have e4 := congrArg Prod.snd (List.cons.inj e3).1
                have := HR.out.2 e4
                cases this
              go_wp2
              refine NoPanic.normal ?_
              go_wp2
              go_ret
              exact ⟨false, rfl, ⟨(fun h => by cases h), fun h => absurd h HNE.out⟩, HB1.out⟩
        · have hbn : ((bs x.1).toList != (bs y.1).toList) = true := by
            rw [bne, bytesNe hxy]
            rfl
          have HNE : Hid (¬ gs = hs) := Lib.hid fun e => by
            have e2 := HS1.out.symm.trans ((congrArg (List.take (k + 1)) e).trans HS2.out)
            have e3 := (List.append_inj' e2 rfl).2
            exact hxy (congrArg Prod.fst (List.cons.inj e3).1)
          clear hxy
          go_wp2_with fail
          refine wp_region_held' (fun w' => w'.cell? (ad.add (k * 3)) = some (sv x.1) ∧ w'.cell? ⟨(ad.add (k * 3)).block, (ad.add (k * 3)).off + 1, none⟩ = some (sv un) ∧ w'.cell? ⟨(ad.add (k * 3)).block, (ad.add (k * 3)).off + 2, none⟩ = some (.slice va.1 va.2.1 va.2.2) ∧ w'.cell? (ad'.add (k * 3)) = some (sv y.1) ∧ w'.cell? ⟨(ad'.add (k * 3)).block, (ad'.add (k * 3)).off + 1, none⟩ = some (sv un') ∧ w'.cell? ⟨(ad'.add (k * 3)).block, (ad'.add (k * 3)).off + 2, none⟩ = some (.slice va'.1 va'.2.1 va'.2.2)) [] [0, 1, 2, 3, 4, 5, 6, 7, 8, 9, 10, 11, 12, 13, 14, 15, 16, 17, 18, 19, 20, 21] [] [22, 23, 24] (by kernel_rfl) (by kernel_rfl) ?sa ?ha
          case sa => exact ⟨e0, e1, e2, f0, f1, f2⟩
          case ha =>
            simp only [opsAt, List.filterMap_cons, List.filterMap_nil, List.getElem?_toArray, List.getElem?_cons_succ, List.getElem?_cons_zero]
            refine wpFloat_nil ?_
            refine wpLoad_step ?va0 rfl (fun w' hS => ?ya0) ?ka0
            case ya0 =>
              obtain ⟨h1, h2, h3, h4, h5, h6⟩ := hS
              go_simp
              try rfl
            case ka0 =>
            go_simp
            refine wpLoad_step ?va1 rfl (fun w' hS => ?ya1) ?ka1
            case ya1 =>
              obtain ⟨h1, h2, h3, h4, h5, h6⟩ := hS
              go_simp
              try rfl
            case ka1 =>
            go_simp
            refine wpLoad_step ?va2 rfl (fun w' hS => ?ya2) ?ka2
            case ya2 =>
              obtain ⟨h1, h2, h3, h4, h5, h6⟩ := hS
              go_simp
              try rfl
            case ka2 =>
            go_simp
            refine wpLoad_step ?va3 rfl (fun w' hS => ?ya3) ?ka3
            case ya3 =>
              obtain ⟨h1, h2, h3, h4, h5, h6⟩ := hS
              go_simp
              try rfl
            case ka3 =>
            go_simp
            refine wpLoad_step ?va4 rfl (fun w' hS => ?ya4) ?ka4
            case ya4 =>
              obtain ⟨h1, h2, h3, h4, h5, h6⟩ := hS
              go_simp
              try rfl
            case ka4 =>
            go_simp
            refine wpLoad_step ?va5 rfl (fun w' hS => ?ya5) ?ka5
            case ya5 =>
              obtain ⟨h1, h2, h3, h4, h5, h6⟩ := hS
              go_simp
              try rfl
            case ka5 =>
            go_simp
            refine wpLoad_step ?va6 rfl (fun w' hS => ?ya6) ?ka6
            case ya6 =>
              obtain ⟨h1, h2, h3, h4, h5, h6⟩ := hS
              go_simp
              try rfl
            case ka6 =>
            go_simp
            refine wpLoad_step ?va7 rfl (fun w' hS => ?ya7) ?ka7
            case ya7 =>
              obtain ⟨h1, h2, h3, h4, h5, h6⟩ := hS
              go_simp
              try rfl
            case ka7 =>
            go_simp
            refine wpLoad_step ?va8 rfl (fun w' hS => ?ya8) ?ka8
            case ya8 =>
              obtain ⟨h1, h2, h3, h4, h5, h6⟩ := hS
              go_simp
              try rfl
            case ka8 =>
            go_simp
            refine wpLoad_step ?va9 rfl (fun w' hS => ?ya9) ?ka9
            case ya9 =>
              obtain ⟨h1, h2, h3, h4, h5, h6⟩ := hS
              go_simp
              try rfl
            case ka9 =>
            go_simp
            refine wpLoad_step (.bool true) rfl (fun w' hS => ?ya10) ?ka10
            case ya10 =>
              obtain ⟨h1, h2, h3, h4, h5, h6⟩ := hS
              go_simp
              first | exact hbn | (simpa [bne] using hbn)
            case ka10 =>
            go_simp
            refine wpLoad_step ?va11 rfl (fun w' hS => ?ya11) ?ka11
            case ya11 =>
              obtain ⟨h1, h2, h3, h4, h5, h6⟩ := hS
              go_simp
              try rfl
            case ka11 =>
            go_simp
            refine wpLoad_skip rfl ?_
            go_simp
            refine wpLoad_skip rfl ?_
            go_simp
            refine wpLoad_skip rfl ?_
            go_simp
            refine wpLoad_skip rfl ?_
            go_simp
            refine wpLoad_skip rfl ?_
            go_simp
            refine wpLoad_skip rfl ?_
            go_simp
            refine wpLoad_skip rfl ?_
            go_simp
            refine wpLoad_skip rfl ?_
            go_simp
            refine wpLoad_skip rfl ?_
            go_simp
            refine wpLoad_skip rfl ?_
            go_simp
            refine wpLoad_nil ?_
            refine wpKeep_nil ?_
            go_wp2
            refine NoPanic.normal ?_
            go_wp2
            go_ret
            exact ⟨false, rfl, ⟨(fun h => by cases h), fun h => absurd h HNE.out⟩, HBB.out.drew⟩
      · obtain rfl : k = m := by omega
        have HEQ : Hid (gs = hs) := Lib.hid (by
          have hx := HX.out
          rwa [List.take_of_length_le (by rw [← HM.out]; exact Nat.le_refl _), List.take_of_length_le (by rw [← HL.out, ← HM.out]; exact Nat.le_refl _)] at hx)
        go_wp2
        go_ret
        exact ⟨true, rfl, ⟨fun _ => HEQ.out, fun _ => rfl⟩, hb⟩
  · have hne : ((gs.length : Int) != (hs.length : Int)) = true := by simp; omega
    have HNE : Hid (¬ gs = hs) := Lib.hid fun e => hll (by rw [e])
    clear hll hG hH
    generalize gs.length = l1 at *
    generalize hs.length = l2 at *
    go_enter Try.func7, Try.ntmps7
    go_wp2
    go_ret
    exact ⟨false, rfl, ⟨(fun h => by cases h), fun h => absurd h HNE.out⟩, Below.refl _ _⟩
end Go.Proofs.Ytkoddmgbpjmohaa
