/-
  The walk of modules.All.
  Conditions: the faces lie in memory and are not too large.
-/
import Derived.Test.YtcliegpofhjpcaaMdG
namespace Go.Proofs.Ytcliegpofhjpcaa
open Go.RowKit

/-- What All hands back. -/
def AllRes (l : List Face) (w : World) (e : Ending) (w' : World) : Prop :=
  ∃ (R : List (List Key)) (g : Nat), e = .returned (.slice (some ⟨g, 0, none⟩) R.length R.length) ∧ AllIs l R ∧ OutsAt w.heap.size g w' R ∧ Below w.heap.size w w'
theorem Fit.len {l : List Face} (h : Fit l) {outs : List (List Key)} (hI : Inv l outs) (i : Nat) : (getL outs i).length ≤ 100000000 :=
  Nat.le_trans (asc_len_le (hI.asc i) (hI.sub i)) h.all
theorem getL_of {outs : List (List Key)} {i : Nat} {x : List Key} (h : outs[i]? = some x) : getL outs i = x := by
  unfold getL
  rw [h]
  rfl
theorem others_len (l : List Face) (outs : List (List Key)) (pub : List (List UInt8)) : (othersOf l outs pub).length ≤ pub.length := List.length_filterMap_le _ _
theorem others_snoc (l : List Face) (outs : List (List Key)) (pub : List (List UInt8)) (m : List UInt8) : othersOf l outs (pub ++ [m]) = othersOf l outs pub ++ (match fstI l m with | some k => [getL outs k] | none => []) := by
  unfold othersOf
  rw [List.filterMap_append]
  congr 1
  cases h : fstI l m <;> simp [h]
theorem fst_take {l : List Face} {k : Nat} {f : Face} (hf : l[k]? = some f) (m : List UInt8) : fstI (l.take (k + 1)) m = (fstI (l.take k) m).or (if f.md = m then some k else none) := by
  have hk := (List.getElem?_eq_some_iff.1 hf).1
  rw [List.take_add_one, hf]
  show fstI (l.take k ++ [f]) m = _
  rw [fstI_snoc, List.length_take, Nat.min_eq_left (by omega)]
def flagN (v : Value) : Nat := match v with
  | .bool true => 1
  | _ => 0
/-- The lists that are re-exported so far, in a row of their own. -/
def OthAt (B g : Nat) (w1 wj : World) (v : Value) (ls : List (List Key)) : Prop :=
  ∃ vs : List Value, wj.ownsRow w1.heap.size 33 1 v ls.length vs ∧ ∀ (i : Nat) (u : Value) (x : List Key), vs[i]? = some u → ls[i]? = some x → BdsW B g w1 u x
theorem OthAt.bdss {B g : Nat} {w1 wj : World} {v : Value} {ls : List (List Key)} (h : OthAt B g w1 wj v ls) (hb : Below w1.heap.size w1 wj) : BdssV wj (Lt wj.heap.size) v ls := by
  obtain ⟨vs, h1, h2⟩ := h
  obtain ⟨A, c, rfl, _⟩ := own_slice h1
  refine ⟨A, c, vs, rfl, by rw [h1.1, Nat.mul_one], Row.ofOwn h1 fun g _ _ h4 => h4, fun i u l hu hl => ?_⟩
  obtain ⟨A', c', e, _, hr⟩ := h2 i u l hu hl
  exact ⟨A', c', e, (hr.keep ((kept_below hb).sub fun b hb => hb.1.2)).more fun b hb' => Nat.lt_of_lt_of_le hb'.1.2 hb.size⟩
set_option maxHeartbeats 1600000 in
set_option maxRecDepth 100000 in
theorem all_any (l : List Face) (fv : Value) (w : World) (hfit : Fit l) (hF : FcsV w (Lt w.heap.size) fv l) :
    Calls Try.prog 10 #[fv] w (AllRes l w) := by
  obtain ⟨n, hn⟩ : ∃ n, n = l.length := ⟨_, rfl⟩
  obtain ⟨FA, fc, fvs, rfl, hfl, hFR, hFV⟩ := hF
  have hnl := hfit.few
  rw [← hn] at hnl ⊢
  have hbx : Below w.heap.size w (w.alloc (.map #[] 0)) := (Below.refl _ _).alloc (Nat.le_refl _) _
  have hm1 : MapG sv intE (w.alloc (.map #[] 0)) w.heap.size fun _ => none := MapG.new w
  have hs0 : (w.alloc (.map #[] 0)).heap.size = w.heap.size + 1 := by simp
  have HN := Lib.hid hn
  have HFIT := Lib.hid hfit
  have HFR := Lib.hid hFR
  have HFV := Lib.hid hFV
  have HFL := Lib.hid hfl
  have HBX := Lib.hid hbx
  have HM1 := Lib.hid hm1
  have HS0 := Lib.hid hs0
  clear hn hfit hFR hFV hfl hbx hm1 hs0
  obtain ⟨i0, hi, hz0, hz1, hz2⟩ := info_parts infoB2
  have hmm := @run_makeMap Try.prog
  go_enter Try.func10, Try.ntmps10
  go_wp2_with fail
  clear hmm
  obtain ⟨w0, hw0⟩ : ∃ w0, w0 = w.alloc (.map #[] 0) := ⟨_, rfl⟩
  rw [← hw0] at HBX HM1 HS0 ⊢
  clear hw0
  go_loopw [21] (fun i wr => ∃ k : Nat, k ≤ n ∧ i = .int .i64 k ∧ Kp (fun y => y = w.heap.size) w0 wr ∧ MapG sv intE wr w.heap.size (fstI (l.take k))) (fun i _ => n - (intOf i).toNat)
  case atStart => exact ⟨0, by omega, rfl, Kp.refl _ _, HM1.out.ext fun m => by simp [fstI]⟩
  case round =>
    obtain ⟨k, hkn, rfl, hK, hG⟩ := hrel
    have hsz := hK.size
    have hs0 := HS0.out
    have HK := Lib.hid hK
    have HG := Lib.hid hG
    clear hK hG
    by_cases hlt : k < n
    · obtain ⟨f, hf⟩ : ∃ f, l[k]? = some f := ⟨_, List.getElem?_eq_getElem (by rw [← HN.out]; exact hlt)⟩
      obtain ⟨u, hu⟩ : ∃ u, fvs[k]? = some u := ⟨_, List.getElem?_eq_getElem (by rw [HFL.out, ← HN.out]; exact hlt)⟩
      have hkeep : Kept (Lt w.heap.size) w wr := (kept_below HBX.out).trans (HK.out.kept fun b hb => ⟨by unfold Lt at hb; omega, by unfold Lt at hb; omega⟩)
      obtain ⟨ad, rfl, _, a0, a1, a2⟩ := fv_at (HFR.out.keep hkeep) hu
      obtain ⟨hmd, ⟨OA, oc, hov, _⟩, PA, pc, hpv, _⟩ := HFV.out k u f hu hf
      obtain ⟨umd, uov, upv⟩ := u
      simp only at hmd hov hpv a0 a1 a2
      subst hmd
      subst hov
      subst hpv
      have hik : (0 : Int) ≤ (k : Int) ∧ (k : Int) < (n : Int) := ⟨by omega, by omega⟩
      obtain ⟨zo, hzo⟩ : ∃ zo, zo = f.own.length := ⟨_, rfl⟩
      obtain ⟨zp, hzp⟩ : ∃ zp, zp = f.pub.length := ⟨_, rfl⟩
      rw [← hzo] at a1
      rw [← hzp] at a2
      have hFT := fst_take hf
      have hbw : Below wr.heap.size wr (wr.alloc (.cells #[sv f.md, .slice OA zo oc, .slice PA zp pc] 37)) := (Below.refl _ _).alloc (Nat.le_refl _) _
      have hlm := HG.out.lt
      have hg1 := HG.out.same (hbw.block _ hlm)
      have hk1 : Kp (fun y => y = w.heap.size) w0 (wr.alloc (.cells #[sv f.md, .slice OA zo oc, .slice PA zp pc] 37)) := HK.out.alloc _
      cases hfst : fstI (l.take k) f.md with
      | some j =>
        have hlk := hg1.yes2 (P := Try.prog) (K := KSt) (k := f.md) (v := j) Try.underlying50 keyStr (fun k => ⟨k, rfl⟩) hfst
        rw [show intE j = .int .i64 (j : Int) from rfl] at hlk
        have HK1 := Lib.hid hk1
        have HG1 : Hid (MapG sv intE (wr.alloc (.cells #[sv f.md, .slice OA zo oc, .slice PA zp pc] 37)) w.heap.size (fstI (l.take (k + 1)))) := Lib.hid (hg1.ext fun m => by
          rw [hFT m]
          by_cases e : f.md = m
          · rw [← e, hfst]
            rfl
          · rw [if_neg e]
            cases fstI (l.take k) m <;> rfl)
        clear hk1 hg1 hFT hfst hf hu hkeep hbw hzo hzp
        go_wp2
        go_roundw
        case rel => exact ⟨k + 1, by omega, by go_num, HK1.out, HG1.out⟩
        case measure => simp [intOf]; omega
      | none =>
        have hlk := hg1.no2 (P := Try.prog) (K := KSt) (k := f.md) (z := .int .i64 0) (fun _ _ => sv_inj) Try.underlying50 keyStr (fun k => ⟨k, rfl⟩) (by kernel_rfl) hfst
        obtain ⟨w3, hput, hg3, hk3⟩ := hg1.put (P := Try.prog) (K := KSt) (fun _ _ => sv_inj) Try.underlying50 keyStr (fun k => ⟨k, rfl⟩) f.md k
        rw [show intE k = .int .i64 (k : Int) from rfl] at hput
        have HK1 := Lib.hid (hk1.trans hk3 (fun y _ e => e))
        have HG1 : Hid (MapG sv intE w3 w.heap.size (fstI (l.take (k + 1)))) := Lib.hid (hg3.ext fun m => by
          rw [hFT m]
          by_cases e : m = f.md
          · subst e
            rw [if_pos rfl, hfst, if_pos rfl]
            rfl
          · rw [if_neg e, if_neg (fun h => e h.symm)]
            cases fstI (l.take k) m <;> rfl)
        have hbl1 := alloc1 wr (.cells #[sv f.md, .slice OA zo oc, .slice PA zp pc] 37)
        clear hk1 hg1 hg3 hk3 hFT hfst hf hu hkeep hbw hzo hzp
        go_wp2
        go_roundw
        case rel => exact ⟨k + 1, by omega, by go_num, HK1.out, HG1.out⟩
        case measure => simp [intOf]; omega
    · have hke : n = k := by omega
      subst hke
      have hg := HG.out
      rw [List.take_of_length_le (by rw [← HN.out]; exact Nat.le_refl _)] at hg
      have hBW : Below w.heap.size w wr := kp_below HBX.out HK.out fun y e => by omega
      obtain ⟨wc, hmk, hIown, hIgr⟩ := run_make_full (P := Try.prog) wr w.heap.size 23 33 i0 _ 1 Try.underlying23 hi hz0 hz1 .i64 .i64 n (by rw [hz2]; omega) (by unfold maxLen; omega) (by omega)
      have hbc : Below wr.heap.size wr wc := ⟨hIgr.os, hIgr.tape, hIgr.output, hIgr.size, fun y hy => hIgr.block y hy (by simp)⟩
      rw [madeN] at hIown
      obtain ⟨g, hgE⟩ : ∃ g, g = wr.heap.size := ⟨_, rfl⟩
      have hglt := hIown.lt wr.heap.size rfl
      have hmlt := hg.lt
      rw [← hgE] at hIown hmk hglt
      have hmg : w.heap.size < g := by omega
      have HBC := Lib.hid (hBW.trans (hbc.mono hBW.size))
      have HGC := Lib.hid (hg.same (hbc.block _ hmlt))
      have HOUT : Hid (OutsAt w.heap.size g wc (iterS l 0)) := Lib.hid ⟨List.replicate n (.slice none 0 0), by
        have hll := iterS_len l 0
        rw [hll, ← HN.out]
        exact hIown, fun i v x hv hx => by
        obtain ⟨p1, e1⟩ := List.getElem?_eq_some_iff.1 hv
        rw [List.getElem_replicate] at e1
        subst e1
        have hx0 : x = [] := by
          unfold iterS startL at hx
          obtain ⟨p2, e2⟩ := List.getElem?_eq_some_iff.1 hx
          rw [List.getElem_replicate] at e2
          exact e2.symm
        subst hx0
        exact ⟨none, 0, rfl, Nat.le_refl _, Row.nil _ _ _⟩⟩
      clear hg hbc hIown hIgr hBW hgE HG HK hmlt
      go_wp2_with fail
      clear hmk
      have hgc := hglt.2
      go_loopw [9] (fun fv wj => ∃ (t : Nat) (bq : Bool), fv = .bool bq ∧ OutsAt w.heap.size g wj (iterS l t) ∧ Kp (fun y => y = g) wc wj ∧ (bq = false → sweep l (iterS l t) = iterS l t)) (fun fv wj => 2 * (n * (univ l).length - totAt wj g n) + flagN fv)
      case atStart => exact ⟨0, true, rfl, HOUT.out, Kp.refl _ _, fun h => by cases h⟩
      case round =>
        clear HOUT
        obtain ⟨t, bq, rfl, hO, hK, hq⟩ := hrel
        have hszt := hK.size
        cases bq with
        | false =>
          have HRES : Hid (AllRes l w (.returned (.slice (some ⟨g, 0, none⟩) n n)) wr) := Lib.hid ⟨iterS l t, g, by rw [iterS_len, ← HN.out], ⟨t, rfl, hq rfl⟩, hO, kp_below HBC.out hK fun y e => by omega⟩
          clear hO hK hq HGC
          go_wp2
          go_ret
          exact HRES.out
        | true =>
          obtain ⟨cur, hcur⟩ : ∃ cur, cur = iterS l t := ⟨_, rfl⟩
          have hI := Inv.iter l t
          have htot := hO.tot
          rw [iterS_len, ← HN.out, ← hcur] at htot
          rw [← hcur] at hO hI
          have HTOT := Lib.hid htot
          have HI := Lib.hid hI
          have HCUR := Lib.hid hcur
          have HO := Lib.hid hO
          have HK := Lib.hid hK
          obtain ⟨wT, hwT⟩ : ∃ wT, wT = wr := ⟨_, rfl⟩
          rw [← hwT] at HTOT
          have HWT := Lib.hid hwT
          clear hO hK hq htot hI hcur hwT
          go_wp2_with fail
          go_loopw [9, 46] (fun fv i wj => ∃ (k : Nat) (bq : Bool), k ≤ n ∧ i = .int .i64 k ∧ fv = .bool bq ∧ OutsAt w.heap.size g wj (sweepTo l cur k) ∧ Kp (fun y => y = g) wc wj ∧ (bq = false → sweepTo l cur k = cur) ∧ (bq = true → tot cur < tot (sweepTo l cur k))) (fun _ i _ => n - (intOf i).toNat)
          case atStart => exact ⟨0, false, by omega, rfl, rfl, HO.out, HK.out, fun _ => rfl, fun h => by cases h⟩
          case round =>
            clear HO HK
            obtain ⟨k, bq, hkn, rfl, rfl, hO, hK, hq1, hq2⟩ := hrel
            have hszk := hK.size
            have HO := Lib.hid hO
            have HK := Lib.hid hK
            have HQ1 := Lib.hid hq1
            have HQ2 := Lib.hid hq2
            clear hO hK hq1 hq2
            by_cases hlt : k < n
            · obtain ⟨f, hf⟩ : ∃ f, l[k]? = some f := ⟨_, List.getElem?_eq_getElem (by rw [← HN.out]; exact hlt)⟩
              obtain ⟨u, hu⟩ : ∃ u, fvs[k]? = some u := ⟨_, List.getElem?_eq_getElem (by rw [HFL.out, ← HN.out]; exact hlt)⟩
              have hkeep : Kept (Lt w.heap.size) w wr := (kept_below HBC.out).trans (HK.out.kept fun b hb => ⟨by unfold Lt at hb; omega, by unfold Lt at hb; omega⟩)
              obtain ⟨ad, hFA, _, a0, a1, a2⟩ := fv_at (HFR.out.keep hkeep) hu
              obtain ⟨hmd, ⟨OA, oc, hov, hOR⟩, PA, pc, hpv, hPR⟩ := HFV.out k u f hu hf
              obtain ⟨umd, uov, upv⟩ := u
              simp only at hmd hov hpv a0 a1 a2
              subst hmd
              subst hov
              subst hpv
              subst hFA
              have hik : (0 : Int) ≤ (k : Int) ∧ (k : Int) < (n : Int) := ⟨by omega, by omega⟩
              obtain ⟨zo, hzo⟩ : ∃ zo, zo = f.own.length := ⟨_, rfl⟩
              obtain ⟨zp, hzp⟩ : ∃ zp, zp = f.pub.length := ⟨_, rfl⟩
              rw [← hzo] at a1
              rw [← hzp] at a2
              have hzpl := HFIT.out.pub f (List.mem_of_getElem? hf)
              rw [← hzp] at hzpl
              obtain ⟨cu, hcu⟩ : ∃ cu, cu = sweepTo l cur k := ⟨_, rfl⟩
              have hIk := (HI.out.sweepTo k).1
              rw [← hcu] at hIk
              have ho := HO.out
              rw [← hcu] at ho
              have hbw : Below wr.heap.size wr (wr.alloc (.cells #[sv f.md, .slice OA zo oc, .slice PA zp pc] 37)) := (Below.refl _ _).alloc (Nat.le_refl _) _
              have ha1 := alloc1 wr (.cells #[sv f.md, .slice OA zo oc, .slice PA zp pc] 37)
              have HF := Lib.hid hf
              have HZO := Lib.hid hzo
              have HZP := Lib.hid hzp
              have HCU := Lib.hid hcu
              have HIK := Lib.hid hIk
              have HOR := Lib.hid hOR
              have HPR := Lib.hid hPR
              clear hzo hzp hcu hf hu hOR hPR hIk
              go_wp2_with fail
              obtain ⟨w1, hw1⟩ : ∃ w1, w1 = wr.alloc (.cells #[sv f.md, .slice OA zo oc, .slice PA zp pc] 37) := ⟨_, rfl⟩
              have hs1 : w1.heap.size = wr.heap.size + 1 := by rw [hw1]; simp
              rw [← hw1] at hbw ha1 ⊢
              have HO1 := Lib.hid (ho.below hbw)
              have HK1 : Hid (Kp (fun y => y = g) wc w1) := Lib.hid (HK.out.below hbw)
              have HA1 := Lib.hid ha1
              have hgw1 : g < w1.heap.size := by omega
              have hww1 : w.heap.size < w1.heap.size := by omega
              have HBW1 := Lib.hid hbw
              have HKW1 := Lib.hid (hkeep.trans ((kept_below hbw).sub fun b hb => by unfold Lt at hb ⊢; omega))
              clear hkeep ho hbw ha1 hw1 hs1 a0 a1 a2
              go_loopw [12, 54] (fun v i wj => ∃ j : Nat, j ≤ zp ∧ i = .int .i64 j ∧ Below w1.heap.size w1 wj ∧ OthAt w.heap.size g w1 wj v (othersOf l cu (f.pub.take j))) (fun _ i _ => zp - (intOf i).toNat)
              case atStart => exact ⟨0, by omega, rfl, Below.refl _ _, [], World.ownsRow_nil _ _ _ _, fun i u x h => by simp at h⟩
              case round =>
                obtain ⟨j, hjz, rfl, hB1, vs, hown, hvs⟩ := hrel
                have hszj := hB1.size
                have HB1 := Lib.hid hB1
                obtain ⟨z, hz⟩ : ∃ z, z = (othersOf l cu (f.pub.take j)).length := ⟨_, rfl⟩
                have hzj : z ≤ j := by
                  rw [hz]
                  refine Nat.le_trans (others_len _ _ _) ?_
                  rw [List.length_take]
                  omega
                rw [← hz] at hown
                obtain ⟨VA, vc, rfl, _⟩ := own_slice hown
                have HOWN := Lib.hid hown
                have HVS := Lib.hid hvs
                have HZ := Lib.hid hz
                clear hB1 hown hvs hz
                by_cases hltj : j < zp
                · obtain ⟨m', hm'⟩ : ∃ m', f.pub[j]? = some m' := ⟨_, List.getElem?_eq_getElem (by rw [← HZP.out]; exact hltj)⟩
                  obtain ⟨pd, hPA, _, p0⟩ := (HPR.out.keep (HKW1.out.trans ((kept_below HB1.out).sub fun b hb => by unfold Lt at hb ⊢; omega))).at_ (k := j) (u := sv m') (by rw [List.getElem?_map, hm']; rfl)
                  subst hPA
                  have hij : (0 : Int) ≤ (j : Int) ∧ (j : Int) < (zp : Int) := ⟨by omega, by omega⟩
                  have hTK : f.pub.take (j + 1) = f.pub.take j ++ [m'] := by rw [List.take_add_one, hm']; rfl
                  have hon := others_snoc l cu (f.pub.take j) m'
                  rw [← hTK] at hon
                  have hmg1 := (HGC.out.kp HK1.out (by omega)).same (HB1.out.block _ (by have := (HGC.out.kp HK1.out (by omega)).lt; omega))
                  cases hfst : fstI l m' with
                  | none =>
                    have hlk := hmg1.no2 (P := Try.prog) (K := KSt) (k := m') (z := .int .i64 0) (fun _ _ => sv_inj) Try.underlying50 keyStr (fun k => ⟨k, rfl⟩) (by kernel_rfl) hfst
                    rw [hfst] at hon
                    simp only [List.append_nil] at hon
                    have HON := Lib.hid hon
                    clear hm' hTK hon hmg1 hfst
                    go_wp2_with fail
                    go_roundw
                    case rel =>
                      refine ⟨j + 1, by omega, by go_num, HB1.out, ?_⟩
                      rw [HON.out]
                      exact ⟨vs, by rw [← HZ.out]; exact HOWN.out, HVS.out⟩
                    case measure => simp [intOf]; omega
                  | some k2 =>
                    have hlk := hmg1.yes2 (P := Try.prog) (K := KSt) (k := m') (v := k2) Try.underlying50 keyStr (fun k => ⟨k, rfl⟩) hfst
                    rw [show intE k2 = .int .i64 (k2 : Int) from rfl] at hlk
                    rw [hfst] at hon
                    simp only at hon
                    have hk2 := fstI_lt hfst
                    rw [← HN.out] at hk2
                    obtain ⟨x2, hx2⟩ : ∃ x2, cu[k2]? = some x2 := ⟨_, List.getElem?_eq_getElem (by rw [HIK.out.len, ← HN.out]; exact hk2)⟩
                    obtain ⟨ov2, o0, _, hbd2⟩ := HO1.out.at_ hx2
                    have hbd3 := hbd2
                    obtain ⟨XA, xc, rfl, _, _⟩ := hbd2
                    rw [getL_of hx2] at hon
                    have o1 := (HB1.out.cell (p := ⟨g, k2, none⟩) (show g < w1.heap.size by omega)).trans o0
                    obtain ⟨zx, hzx⟩ : ∃ zx, zx = x2.length := ⟨_, rfl⟩
                    rw [← hzx] at o1 hbd3
                    have hi2 : (0 : Int) ≤ (k2 : Int) ∧ (k2 : Int) < (n : Int) := ⟨by omega, by omega⟩
                    have HON := Lib.hid hon
                    have HBD := Lib.hid hbd3
                    clear hm' hTK hon hmg1 hfst hx2 o0 hbd3 hzx
                    go_wp2_with (at_builtin; refine wpList_append_lies _ rfl _ _ 23 rfl w1.heap.size 33 i0 _ 1 24 Try.underlying23 hi hz0 hz1 hz2 rfl (by omega) _ z vs rfl (HOWN.out.alloc _) ⟨wr.heap.size, 0, none⟩ 1 1 [.slice XA zx xc] rfl rfl ?d1 ?d2 (by omega) ?d3 ?d4 ?d5 _ rfl ?_)
                    case d1 => exact World.news_of_block (cs := #[.slice XA zx xc]) (alloc1 wr _)
                    case d2 =>
                      intro u hu
                      rw [List.mem_singleton.1 hu]
                      rfl
                    case d3 => unfold maxLen; omega
                    case d4 => omega
                    case d5 => simp; omega
                    intro vg vcap w2 hown2 hgr hat _
                    have hltv := HOWN.out.lt
                    have HB2 : Hid (Below w1.heap.size w1 w2) := Lib.hid ((HB1.out.alloc hszj (.cells #[.slice XA zx xc] 33)).grown hgr (by simp; omega) (fun r hr => (hltv r hr).1))
                    have HOT : Hid (OthAt w.heap.size g w1 w2 (.slice (some ⟨vg, 0, none⟩) (z + 1) vcap) (othersOf l cu (f.pub.take (j + 1)))) := Lib.hid ⟨vs ++ [.slice XA zx xc], by
                      rw [HON.out, List.length_append, ← HZ.out]
                      exact hown2, fun i u x hu hx => by
                      rw [HON.out] at hx
                      have hvl : vs.length = z := by rw [HOWN.out.1, Nat.mul_one]
                      by_cases hiz : i < z
                      · rw [List.getElem?_append_left (by rw [hvl]; exact hiz)] at hu
                        rw [List.getElem?_append_left (by rw [← HZ.out]; exact hiz)] at hx
                        exact HVS.out i u x hu hx
                      · rw [List.getElem?_append_right (by rw [hvl]; omega), hvl] at hu
                        rw [List.getElem?_append_right (by rw [← HZ.out]; omega), ← HZ.out] at hx
                        obtain ⟨p1, e1⟩ := List.getElem?_eq_some_iff.1 hu
                        obtain ⟨p2, e2⟩ := List.getElem?_eq_some_iff.1 hx
                        simp at p1 p2
                        simp [p1] at e1 e2
                        subst e1
                        subst e2
                        exact HBD.out⟩
                    clear hown2 hgr hat hltv o1 HOWN
                    go_wp2
                    go_roundw
                    case rel => exact ⟨j + 1, by omega, by go_num, HB2.out, HOT.out⟩
                    case measure => simp [intOf]; omega
                · have hje : zp = j := by omega
                  subst hje
                  have hov := HVS.out
                  have hown := HOWN.out
                  have hz := HZ.out
                  rw [List.take_of_length_le (by rw [← HZP.out]; exact Nat.le_refl _)] at hov hz
                  have hoth : OthAt w.heap.size g w1 wr (.slice VA z vc) (othersOf l cu f.pub) := ⟨vs, by rw [← hz]; exact hown, hov⟩
                  have hbv := hoth.bdss HB1.out
                  have hm0 := HA1.out
                  have hA1 := (HB1.out.block _ (lt_of_heap hm0)).trans hm0
                  have t0 := (Lib.cell_of_heap hA1 0).trans rfl
                  have t1 := (Lib.cell_of_heap hA1 1).trans rfl
                  have HBV := Lib.hid hbv
                  have hkO : Kept (Lt w.heap.size) w wr := HKW1.out.trans ((kept_below HB1.out).sub fun b hb => by unfold Lt at hb ⊢; omega)
                  have hfm := List.mem_of_getElem? HF.out
                  have HST := Lib.hid (step_any f.md f.own (othersOf l cu f.pub) OA oc (.slice VA z vc) wr (HFIT.out.md f hfm) (HFIT.out.own f hfm).2 (HFIT.out.own f hfm).1 (Nat.le_trans (others_len _ _ _) (by rw [← HZP.out]; exact hzpl)) (fun x hx => by
                    obtain ⟨mm, _, he⟩ := List.mem_filterMap.1 hx
                    obtain ⟨jj, _, rfl⟩ := Option.map_eq_some_iff.1 he
                    exact HFIT.out.len HIK.out jj) (fun ks hn hk => Nat.le_trans (nodup_le2 hn fun x hx => HIK.out.univ_step HF.out (hk x hx)) HFIT.out.all) ((HOR.out.keep hkO).more fun b hb => by unfold Lt at hb ⊢; omega) HBV.out)
                  rw [← HZO.out] at HST
                  clear hov hown hz hoth hbv hm0 hA1 hkO HBV HVS HOWN HZ
                  go_wp2_with fail
                  refine HST.out.mono ?_
                  rintro e w2 ⟨RA, rc, ss, rfl, hrc, hasc, hmem, hrow2, hb2⟩
                  have hss := step_is hasc hmem
                  have hs2 := hb2.size
                  have hb12 : Below w1.heap.size w1 w2 := HB1.out.trans (hb2.mono hszj)
                  obtain ⟨x0, hx0⟩ : ∃ x0, cu[k]? = some x0 := ⟨_, List.getElem?_eq_getElem (by rw [HIK.out.len, ← HN.out]; exact hlt)⟩
                  have hO2 := HO1.out.below hb12
                  obtain ⟨ov, o0, _, XA, xc, rfl, _, hxr⟩ := hO2.at_ hx0
                  have hsl : ss.length ≤ 100000000 := by
                    refine Nat.le_trans (nodup_le2 hasc.nodup fun x hx => HIK.out.univ_step HF.out ((hmem x).1 hx)) HFIT.out.all
                  have HEQ := Lib.hid (equalB_any ss x0 RA XA rc xc w2 hsl (hrow2.more fun b hb => hb.2) (hxr.more fun b hb => hb.1.2))
                  obtain ⟨y, hy⟩ : ∃ y, y = ss.length := ⟨_, rfl⟩
                  obtain ⟨zx, hzx⟩ : ∃ zx, zx = x0.length := ⟨_, rfl⟩
                  rw [← hy, ← hzx] at HEQ
                  rw [← hzx] at o0
                  rw [← hy] at hrc ⊢
                  have HY := Lib.hid hy
                  have HX0 := Lib.hid hx0
                  have HSS := Lib.hid hss
                  have HROW := Lib.hid hrow2
                  have HO2 := Lib.hid hO2
                  have HB12 := Lib.hid hb12
                  have HASC := Lib.hid hasc
                  clear hasc hmem hrow2 hb2 hss hx0 hxr hy hzx hO2 hb12 HST t0 t1
                  go_wp2_with fail
                  refine HEQ.out.mono ?_
                  rintro e w3 ⟨r, rfl, hr, hb3⟩
                  have hs3 := hb3.size
                  have hb13 : Below w1.heap.size w1 w3 := HB12.out.trans (hb3.mono HB12.out.size)
                  have hst : sweepTo l cur (k + 1) = cu.set k ss := by
                    rw [sweepTo_succ, ← HCU.out, HSS.out]
                    unfold stp
                    rw [HF.out]
                  have HST := Lib.hid hst
                  have HO3 := Lib.hid (HO1.out.below hb13)
                  have HK3 : Hid (Kp (fun y => y = g) wc w3) := Lib.hid (HK1.out.below hb13)
                  have hlc := (HI.out.sweepTo k).2
                  cases r with
                  | true =>
                    have hxe := hr.1 rfl
                    have HSAME : Hid (sweepTo l cur (k + 1) = cu) := Lib.hid (by
                      rw [hst, hxe]
                      apply List.ext_getElem?
                      intro i
                      by_cases e : k = i
                      · subst e
                        rw [List.getElem?_set_self (by rw [HIK.out.len, ← HN.out]; exact hlt), HX0.out]
                      · rw [List.getElem?_set_ne e])
                    clear hr hst hlc hxe hb3 hb13
                    go_wp2
                    go_roundw
                    case rel => exact ⟨k + 1, bq, by omega, by go_num, by trivial, by rw [HSAME.out]; exact HO3.out, HK3.out, by rw [HSAME.out, HCU.out]; exact HQ1.out, by rw [HSAME.out, HCU.out]; exact HQ2.out⟩
                    case measure => simp [intOf]; omega
                  | false =>
                    have hne : ss ≠ x0 := fun e => by have := hr.2 e; cases this
                    have hbd : BdsW w.heap.size g w3 (.slice RA y rc) ss := ⟨RA, rc, by rw [HY.out], by rw [← HY.out]; exact hrc, (HROW.out.keep ((kept_below hb3).sub fun b hb => hb.2)).more fun b hb => ⟨⟨by have := hb.1; omega, by have := hb.2; omega⟩, by have := hb.1; omega⟩⟩
                    obtain ⟨v0, o3, f3, _⟩ := HO3.out.at_ HX0.out
                    have hset := HO3.out.set (i := k) hbd
                    obtain ⟨w4, hw4⟩ : ∃ w4, w4 = w3.setCell ⟨g, k, none⟩ (.slice RA y rc) := ⟨_, rfl⟩
                    rw [← hw4] at hset
                    have HO4 := Lib.hid hset.1
                    have HK4 : Hid (Kp (fun y => y = g) wc w4) := Lib.hid (HK3.out.trans hset.2 fun _ _ e => e)
                    have HTT : Hid (tot cur < tot (sweepTo l cur (k + 1))) := Lib.hid (by
                      have hst2 := HIK.out.stp k
                      have e1 : stp l cu k = sweepTo l cur (k + 1) := by rw [sweepTo_succ, ← HCU.out]
                      rw [e1] at hst2
                      have h1 := tot_le (by rw [HIK.out.len, hst2.1.len]) HIK.out.asc hst2.2
                      have h2 : tot cur ≤ tot cu := by
                        rw [HCU.out]
                        exact tot_le (by rw [HI.out.len, (HI.out.sweepTo k).1.len]) HI.out.asc hlc
                      rcases Nat.lt_or_ge (tot cu) (tot (sweepTo l cur (k + 1))) with h3 | h3
                      · omega
                      · exfalso
                        have h4 := tot_eq (by rw [HIK.out.len, hst2.1.len]) HIK.out.asc hst2.1.asc hst2.2 h3
                        rw [hst] at h4
                        have h5 : cu[k]? = (cu.set k ss)[k]? := congrArg (fun o : List (List Key) => o[k]?) h4
                        rw [HX0.out, List.getElem?_set_self (by rw [HIK.out.len, ← HN.out]; exact hlt)] at h5
                        exact hne (Option.some.inj h5).symm)
                    have HW4 := Lib.hid hw4
                    clear hr hne hbd hset hw4 hst hlc hb3 hb13
                    go_wp2_with fail
                    go_roundw
                    case rel => exact ⟨k + 1, true, by omega, by go_num, by trivial, by rw [HST.out, ← HW4.out]; exact HO4.out, by rw [← HW4.out]; exact HK4.out, (fun h => by cases h), fun _ => HTT.out⟩
                    case measure => simp [intOf]; omega
            · have hke : n = k := by omega
              subst hke
              have hsw : sweepTo l cur n = iterS l (t + 1) := by
                rw [iterS, sweep, ← HN.out, ← HCUR.out]
              have ho := HO.out
              have hq1 := HQ1.out
              have hq2 := HQ2.out
              rw [hsw] at ho hq1 hq2
              have htn := ho.tot
              rw [iterS_len, ← HN.out] at htn
              have hbd := (Inv.iter l (t + 1)).bound
              rw [← HN.out] at hbd
              have HONEW := Lib.hid ho
              have HQ1N := Lib.hid hq1
              have HQ2N := Lib.hid hq2
              have HTN := Lib.hid htn
              have HBD := Lib.hid hbd
              clear ho hq1 hq2 htn hbd HQ1 HQ2 HO hsw
              go_wp2_with fail
              go_roundw
              case rel =>
                refine ⟨t + 1, bq, by trivial, HONEW.out, HK.out, fun h => ?_⟩
                have e1 := HQ1N.out h
                rw [e1]
                have e2 : sweep l cur = iterS l (t + 1) := by rw [HCUR.out]; rfl
                rw [e2, e1]
              case measure =>
                rw [← HWT.out, HTOT.out, HTN.out]
                cases bq with
                | false =>
                  rw [HQ1N.out rfl]
                  simp [flagN]
                | true =>
                  have h1 := HQ2N.out rfl
                  have h2 := HBD.out
                  simp [flagN]
                  omega
end Go.Proofs.Ytcliegpofhjpcaa
