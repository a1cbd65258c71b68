/-
  The walk of law06's ModulesGrow.
  Conditions: the numbers lie in memory.
-/
import Derived.Test.YtcliegpofhjpcaaMdQ
namespace Go.Proofs.Ytcliegpofhjpcaa
open Go.RowKit

theorem fst_same {l l' : List Face} (h : l.map (·.md) = l'.map (·.md)) (m : List UInt8) : fstI l m = fstI l' m := by
  have e : ∀ l : List Face, fstI l m = (l.map (·.md)).findIdx? fun x => decide (x = m) := fun l => by
    unfold fstI
    rw [List.findIdx?_map]
    rfl
  rw [e, e, h]
/-- One re-export more. -/
def growF (f : Face) (s : List UInt8) : Face := ⟨f.md, f.own, f.pub ++ [s]⟩
theorem grow_le {l : List Face} {R R' : List (List Key)} {k : Nat} {f : Face} {s : List UInt8} (hf : l[k]? = some f) (h : AllIs l R) (h' : AllIs (l.set k (growF f s)) R') : LeL R R' := by
  have hmd : l.map (·.md) = (l.set k (growF f s)).map (·.md) := by
    rw [List.map_set]
    refine List.ext_getElem? fun j => ?_
    by_cases e : k = j
    · subst e
      have hlt := (List.getElem?_eq_some_iff.1 hf).1
      rw [List.getElem?_set_self (by simpa using hlt), List.getElem?_map, hf]
      rfl
    · rw [List.getElem?_set_ne e]
  refine h.least fun i g hg x hx => ?_
  by_cases e : k = i
  · subst e
    obtain rfl : f = g := Option.some.inj (hf.symm.trans hg)
    have hlt := (List.getElem?_eq_some_iff.1 hf).1
    rw [h'.fix (f := growF f s) (i := k) (by rw [List.getElem?_set_self hlt]), mem_stepL]
    refine hx.mono fun y hy hk => ?_
    obtain ⟨z, hz, hk2⟩ := others_mono (fst_same hmd) (LeL.refl R') x y hy hk
    refine ⟨z, ?_, hk2⟩
    unfold othersOf growF at *
    simp only [List.filterMap_append]
    exact List.mem_append_left _ hz
  · rw [h'.fix (f := g) (i := i) (by rw [List.getElem?_set_ne e]; exact hg), mem_stepL]
    exact hx.mono (others_mono (fst_same hmd) (LeL.refl R') x)
theorem flt_set3 : ∀ (vs : List FV) (k : Nat) (x : FV) (p : Value), vs[k]? = some x → (flt fvC vs).set (k * 3 + 2) p = flt fvC (vs.set k ⟨x.md, x.ov, p⟩)
  | [], _, _, _, h => by cases h
  | y :: r, 0, x, p, h => by
    cases h
    simp [flt, fvC]
  | y :: r, k + 1, x, p, h => by
    have ih := flt_set3 r k x p (by simpa using h)
    rw [List.set_cons_succ, flt_cons, flt_cons, ← ih, show (k + 1) * 3 + 2 = k * 3 + 2 + 3 by omega]
    simp [fvC]
theorem fvs_one {w : World} {S : Nat → Prop} {vs : List FV} {l : List Face} (hl : vs.length = l.length) (h : ∀ (i : Nat) (u : FV) (f : Face), vs[i]? = some u → l[i]? = some f → u.md = f.md ∧ StrsV w S u.ov f.own ∧ StrsV w S u.pv f.pub) : ∀ u ∈ flt fvC vs, u.oneCell' = true := by
  intro u hu
  obtain ⟨x, hx, hu⟩ := List.mem_flatMap.1 hu
  obtain ⟨i, hi⟩ := List.getElem?_of_mem hx
  obtain ⟨f, hf⟩ : ∃ f, l[i]? = some f := ⟨_, List.getElem?_eq_getElem (by rw [← hl]; exact (List.getElem?_eq_some_iff.1 hi).1)⟩
  obtain ⟨_, ⟨A1, c1, e1, _⟩, A2, c2, e2, _⟩ := h i x f hi hf
  unfold fvC at hu
  rw [e1, e2] at hu
  simp only [List.mem_cons, List.not_mem_nil, or_false] at hu
  rcases hu with rfl | rfl | rfl <;> rfl
theorem Small.grow {l : List Face} (h : Small l) {k : Nat} {f : Face} {s : List UInt8} (hf : l[k]? = some f) : Fit (l.set k (growF f s)) := by
  have hm := List.mem_of_getElem? hf
  have hin : ∀ g ∈ l.set k (growF f s), g ∈ l ∨ g = growF f s := fun g hg => List.mem_or_eq_of_mem_set hg
  have hf4 : (l.set k (growF f s)).length ≤ 4 := by rw [List.length_set]; exact h.few
  have ho : ∀ g ∈ l.set k (growF f s), g.own.length ≤ 3 := fun g hg => by
    rcases hin g hg with e | rfl
    · exact (h.own g e).1
    · exact (h.own f hm).1
  refine ⟨by omega, fun g hg => ?_, fun g hg => ⟨by have := ho g hg; omega, ?_⟩, fun g hg => ?_, ?_⟩
  · rcases hin g hg with e | rfl
    · have := h.md g e; omega
    · have := h.md f hm; show f.md.length ≤ _; omega
  · rcases hin g hg with e | rfl
    · intro n hn; have := (h.own g e).2 n hn; omega
    · intro n hn; have := (h.own f hm).2 n hn; omega
  · rcases hin g hg with e | rfl
    · have := h.pub g e; omega
    · have := h.pub f hm; show (f.pub ++ [s]).length ≤ _; simp; omega
  · have := univ_len 3 _ ho
    have : (l.set k (growF f s)).length * 3 ≤ 4 * 3 := Nat.mul_le_mul_right _ hf4
    omega

theorem outs_small {l : List Face} {R : List (List Key)} (h : AllIs l R) (hf : Fit l) {i : Nat} {x : List Key} (hx : R[i]? = some x) : x.length ≤ 100000000 := by
  have := asc_len_le (h.inv.asc i) (h.inv.sub i)
  rw [getL_of hx] at this
  have := hf.all
  omega
set_option maxHeartbeats 1600000 in
set_option maxRecDepth 100000 in
theorem grow_heavy (m : Nat) (TA : Option Addr) (tc : Nat) (w : World) (hfew : ¬ m ≤ 400) :
    Calls Try.prog 5 #[.slice TA m tc] w fun e w' => e = .returned (.bool true) ∧ Below w.heap.size w w' := by
  have HL := Lib.hid (light_any m TA tc w)
  have hd0 : decide (m ≤ 400) = false := by simpa using hfew
  go_enter Try.func5, Try.ntmps5
  go_wp2_with fail
  refine HL.out.mono ?_
  rintro e w1 ⟨rfl, rfl⟩
  rw [hd0]
  clear HL hd0
  go_wp2_with fail
  refine (awake_any w).mono ?_
  rintro e wz ⟨rfl, hbz⟩
  have HBz := Lib.hid hbz
  clear hbz
  go_wp2
  go_ret
  exact ⟨rfl, HBz.out⟩

set_option maxHeartbeats 1600000 in
set_option maxRecDepth 100000 in
theorem grow_light (xs : List Int) (TA : Option Addr) (tc : Nat) (w : World) (hA : Row w (Lt w.heap.size) TA (xs.map (Value.int .i64))) (hfew : xs.length ≤ 400) (hf : ∀ x ∈ xs, -9223372036854775808 ≤ x ∧ x ≤ 9223372036854775807) :
    Calls Try.prog 5 #[.slice TA xs.length tc] w fun e w' => e = .returned (.bool true) ∧ Below w.heap.size w w' := by
  obtain ⟨m, hm⟩ : ∃ m, m = xs.length := ⟨_, rfl⟩
  have HL := Lib.hid (light_any m TA tc w)
  have HRO := Lib.hid (roll_any xs TA tc w hA hfew hf)
  rw [← hm] at HRO hfew ⊢
  have hd0 : decide (m ≤ 400) = true := by simpa using hfew
  obtain ⟨i0, hi, hz0, hz1, hz2⟩ := info_parts infoS
  obtain ⟨i3, fi, fz0, fz1, fz2⟩ := info_parts infoF
  clear hA hf hm
  go_enter Try.func5, Try.ntmps5
  go_wp2_with fail
  refine HL.out.mono ?_
  rintro e w1 ⟨rfl, rfl⟩
  rw [hd0]
  clear HL hd0
  go_wp2_with fail
  refine HRO.out.mono ?_
  rintro e w1 ⟨rfl, hd1, hb1⟩
  have hdl1 := hd1.lt
  have HD1 := Lib.hid hd1
  have HB1 := Lib.hid hb1
  clear hd1 hb1 HRO
  go_wp2_with fail
  refine (faces_any w.heap.size xs w1 HD1.out).mono ?_
  rintro e w2 ⟨lv, l, rfl, hF2, hSm, hD2, hK2⟩
  obtain ⟨LA, lc, vs, rfl, hvl, hvr, hvs⟩ := hF2
  have hs12 := hK2.size
  have HB2 := Lib.hid (kp_below HB1.out hK2 fun y e => by omega)
  have HD2 := Lib.hid hD2
  have HVL := Lib.hid hvl
  have HVR := Lib.hid hvr
  have HVS := Lib.hid hvs
  have HSM := Lib.hid hSm
  have hn4 := hSm.few
  obtain ⟨n, hn⟩ : ∃ n, n = l.length := ⟨_, rfl⟩
  rw [← hn] at hn4 ⊢
  have HN := Lib.hid hn
  clear hvl hvr hvs hSm hD2 hK2 HD1 HB1 hn
  by_cases hn0 : n = 0
  · subst hn0
    go_wp2_with fail
    refine (awake_any w2).mono ?_
    rintro e wz ⟨rfl, hbz⟩
    have HBz := Lib.hid (HB2.out.trans (hbz.mono HB2.out.size))
    clear hbz
    go_wp2
    go_ret
    exact ⟨rfl, HBz.out⟩
  · have hn1 : ¬ ((n : Int) = 0) := by omega
    go_wp2_with (at_builtin; refine wpList_append_row rfl _ _ 22 rfl w2.heap.size 37 i3 _ 3 64 Try.underlying22 fi fz0 fz1 fz2 rfl (by omega) (.slice none 0 0) 0 [] rfl (World.ownsRow_nil _ _ _ _) _ LA n lc (flt fvC vs) rfl (by rw [flt_length fvC_len, HVL.out, HN.out]) HVR.out (fvs_one HVL.out HVS.out) (by unfold maxLen; omega) (by omega) (by omega) ?_)
    intro mv w3 hown hg _
    have hb3 : Below w2.heap.size w2 w3 := (Below.refl _ w2).grown hg (Nat.le_refl _) (fun r hr => by cases hr)
    obtain ⟨g, cap, rfl, hg2, hg3⟩ := hown.form (by omega)
    have HB3 := Lib.hid hb3
    have HD3 := Lib.hid (HD2.out.below hb3)
    have HOWN3 := Lib.hid hown
    have hs23 := hb3.size
    clear hown hg hb3 HD2
    go_wp2_with fail
    refine (next_any n w.heap.size xs w3 (by omega) (by omega) HD3.out).mono ?_
    rintro e w4 ⟨k, hk, rfl, hD4, hK4⟩
    obtain ⟨x, hx⟩ : ∃ x, vs[k]? = some x := ⟨_, List.getElem?_eq_getElem (by rw [HVL.out, ← HN.out]; exact hk)⟩
    obtain ⟨f, hf⟩ : ∃ f, l[k]? = some f := ⟨_, List.getElem?_eq_getElem (by rw [← HN.out]; exact hk)⟩
    obtain ⟨hxm, _, PA, pc, hxp, hxr⟩ := HVS.out k x f hx hf
    have hs34 := hK4.size
    have hk24 : Kp (fun y => y = w.heap.size) w2 w4 := (Kp.ofBelow HB3.out).one hK4
    have hown4 := hK4.own HOWN3.out fun r hr e => by have := (HOWN3.out.lt r hr).1; omega
    have c2 : w4.cell? ⟨g, k * 3 + 2, none⟩ = some x.pv := (hown4.cellAt (k * 3 + 2) (by omega)).trans (flt_at (j := 2) fvC_len hx rfl)
    have hxr4 := hxr.keep (hk24.kept fun b hb => ⟨hb.2, fun e => by have := hb.1; omega⟩)
    obtain ⟨p, hp⟩ : ∃ p, p = f.pub.length := ⟨_, rfl⟩
    have hp3 : p ≤ 3 := by rw [hp]; exact HSM.out.pub f (List.mem_of_getElem? hf)
    rw [← hp] at hxp
    rw [hxp] at c2
    have hik : (0 : Int) ≤ (k : Int) ∧ (k : Int) < (n : Int) := ⟨by omega, by omega⟩
    have HD4 := Lib.hid hD4
    have HK24 := Lib.hid hk24
    have HOWN4 := Lib.hid hown4
    have HX := Lib.hid hx
    have HF := Lib.hid hf
    have HXR := Lib.hid hxr4
    have HP := Lib.hid hp
    clear hD4 hk24 hK4 hown4 hx hf hxm hxp hxr hxr4 hp HD3 HOWN3
    go_wp2_with (at_builtin; refine wpList_append_row rfl _ _ 35 rfl w4.heap.size 9 i0 _ 1 16 Try.underlying35 hi hz0 hz1 hz2 rfl (by omega) (.slice none 0 0) 0 [] rfl (World.ownsRow_nil _ _ _ _) _ PA p pc (f.pub.map sv) rfl (by rw [List.length_map, HP.out, Nat.mul_one]) HXR.out (fun u hu => by obtain ⟨y, _, rfl⟩ := List.mem_map.1 hu; rfl) (by unfold maxLen; omega) (by omega) (by omega) ?_)
    intro qv w5 hown hgr _
    have hb5 : Below w4.heap.size w4 w5 := (Below.refl _ w4).grown hgr (Nat.le_refl _) (fun r hr => by cases hr)
    obtain ⟨QA, qc, rfl, _⟩ := own_slice hown
    have hs45 := hb5.size
    have hba : Below w5.heap.size w5 (w5.alloc (.cells #[.string ⟨#[97]⟩, .string ⟨#[98]⟩, .string ⟨#[99]⟩, .string ⟨#[100]⟩] 9)) := (Below.refl _ _).alloc (Nat.le_refl _) _
    have hd5 := (HD4.out.below hb5).below hba
    have hof := of_any [[97], [98], [99], [100]] (some ⟨w5.heap.size, 0, none⟩) 4 w.heap.size xs _ (by decide) (by decide) hd5 (row_lit w5 _ _ _ rfl w.heap.size (by omega))
    have HOF := Lib.hid hof
    have HB5 := Lib.hid hb5
    have HBA := Lib.hid hba
    have HOWN5 := Lib.hid hown
    clear hown hgr hb5 hba hd5 hof
    go_wp2_with fail
    refine HOF.out.mono ?_
    rintro e w6 ⟨s, hs, rfl, hD6, hK6⟩
    have hk56 : Kp (fun y => y = w.heap.size) w5 w6 := (Kp.ofBelow HBA.out).one hK6
    have hs56 := hk56.size
    have hown6 := hk56.own HOWN5.out fun r hr e => by have := (HOWN5.out.lt r hr).1; omega
    have hown6a := hown6.alloc (.cells #[sv s] 9)
    have hnew : ∀ j u, [sv s][j]? = some u → (w6.alloc (.cells #[sv s] 9)).cell? ((⟨w6.heap.size, 0, none⟩ : Addr).add j) = some u := World.news_of_block (cs := #[sv s]) (alloc1 w6 _)
    have HOWN6 := Lib.hid hown6a
    have HNEW := Lib.hid hnew
    have HK46 := Lib.hid ((Kp.ofBelow (M := fun y => y = w.heap.size) HB5.out).one hk56)
    clear hs hD6 hK6 hk56 hown6 hown6a hnew HOWN5 HB5 HBA HOF
    go_wp2_with (at_builtin; refine wpList_append_lies _ rfl _ _ 35 rfl w4.heap.size 9 i0 _ 1 16 Try.underlying35 hi hz0 hz1 hz2 rfl (by omega) _ p (f.pub.map sv) rfl HOWN6.out ⟨w6.heap.size, 0, none⟩ 1 1 [sv s] rfl rfl HNEW.out ?d2 (by omega) ?d3 ?d4 ?d5 _ rfl ?_)
    case d2 =>
      intro u hu
      rw [List.mem_singleton.1 hu]
      rfl
    case d3 => unfold maxLen; omega
    case d4 => omega
    case d5 => simp; omega
    intro vg vcap w7 hown7 hgr7 hat7 _
    have hltq := HOWN6.out.lt
    have hk67 : Kp (fun y => (Value.slice QA p qc).ownBlock = some y) w6 w7 := ((Kp.refl _ _).alloc (.cells #[sv s] 9)).grown hgr7 fun r hr _ => hr
    have hk47 : Kp (fun y => y = w.heap.size) w4 w7 := HK46.out.trans (M1 := fun y => (Value.slice QA p qc).ownBlock = some y) hk67 fun y hy e => by
      have := (hltq y e).1
      omega
    have hown7m := hk47.own HOWN4.out fun r hr e => by have := (HOWN4.out.lt r hr).1; omega
    have f7 := hown7m.frozenAt (k * 3 + 2)
    have c7 : w7.cell? ⟨g, k * 3 + 2, none⟩ = some x.pv := (hown7m.cellAt (k * 3 + 2) (by omega)).trans (flt_at (j := 2) fvC_len HX.out rfl)
    obtain ⟨w9, hw9⟩ : ∃ w9, w9 = w7.setCell ⟨g, k * 3 + 2, none⟩ (.slice (some ⟨vg, 0, none⟩) (p + 1) vcap) := ⟨_, rfl⟩
    have hown9 := (hown7m.stored (k * 3 + 2) (.slice (some ⟨vg, 0, none⟩) (p + 1) vcap)).1
    rw [← hw9, flt_set3 vs k x _ HX.out] at hown9
    have hk79 : Kp (fun y => y = g) w7 w9 := by
      rw [hw9]
      exact Kp.setCell (M := fun y => y = g) (Kp.refl _ _) (fun _ => rfl) _
    have hvg : ∀ r, (Value.slice (some ⟨vg, 0, none⟩) (p + 1) vcap).ownBlock = some r → ¬ r = g := fun r hr e => rows_ne hown7 hown7m (by decide) r hr (by rw [e]; rfl)
    have hown7s := hk79.own hown7 hvg
    have hk29 : Kp (fun y => y = w.heap.size) w2 w9 := (HK24.out.one hk47).trans (M1 := fun y => y = g) hk79 fun y hy e => by omega
    have HW9 := Lib.hid hw9
    have HK29 := Lib.hid hk29
    have HOWN9 := Lib.hid hown9
    have HOWNS := Lib.hid hown7s
    clear hltq hk67 hk47 hown7m hown9 hk79 hvg hown7s hk29 hown7 hgr7 hat7 hw9 HOWN6 HNEW HK46 HD4 HK24 HOWN4
    have hs29 := HK29.out.size
    have hkl : Kept (Fr w1.heap.size w2.heap.size) w2 w9 := HK29.out.kept fun b hb => ⟨hb.2, fun e => by have := hb.1; omega⟩
    have hup : ∀ b, Fr w1.heap.size w2.heap.size b → Lt w9.heap.size b := fun b hb => Nat.lt_of_lt_of_le hb.2 hs29
    have hFl : FcsV w9 (Lt w9.heap.size) (.slice LA n lc) l := ⟨LA, lc, vs, by rw [HN.out], HVL.out, (HVR.out.keep hkl).more hup, fun i u f' h1 h2 => ⟨(HVS.out i u f' h1 h2).1, ((HVS.out i u f' h1 h2).2.1.keep hkl).more hup, ((HVS.out i u f' h1 h2).2.2.keep hkl).more hup⟩⟩
    have hFm : FcsV w9 (Lt w9.heap.size) (.slice (some ⟨g, 0, none⟩) n cap) (l.set k (growF f s)) := by
      refine ⟨_, cap, vs.set k ⟨x.md, x.ov, .slice (some ⟨vg, 0, none⟩) (p + 1) vcap⟩, by rw [List.length_set, HN.out], by rw [List.length_set, List.length_set, HVL.out], Row.ofOwn HOWN9.out fun r _ _ h => h, fun i u f' h1 h2 => ?_⟩
      by_cases e : k = i
      · subst e
        have hk1 := (List.getElem?_eq_some_iff.1 HX.out).1
        have hk2 := (List.getElem?_eq_some_iff.1 HF.out).1
        rw [List.getElem?_set_self hk1] at h1
        rw [List.getElem?_set_self hk2] at h2
        obtain rfl := Option.some.inj h1
        obtain rfl := Option.some.inj h2
        obtain ⟨a1, a2, _⟩ := HVS.out k x f HX.out HF.out
        refine ⟨a1, (a2.keep hkl).more hup, ⟨some ⟨vg, 0, none⟩, vcap, ?_, ?_⟩⟩
        · show _ = Value.slice _ (f.pub ++ [s]).length _
          rw [List.length_append, HP.out]
          rfl
        · have := Row.ofOwn (S := Lt w9.heap.size) HOWNS.out fun r _ _ h => h
          show Row _ _ _ ((f.pub ++ [s]).map sv)
          rw [List.map_append]
          exact this
      · rw [List.getElem?_set_ne e] at h1 h2
        exact ⟨(HVS.out i u f' h1 h2).1, ((HVS.out i u f' h1 h2).2.1.keep hkl).more hup, ((HVS.out i u f' h1 h2).2.2.keep hkl).more hup⟩
    have HFM := Lib.hid hFm
    have HAL := Lib.hid (all_any l _ w9 HSM.out.fit hFl)
    have HB9 := Lib.hid (kp_below HB2.out HK29.out fun y e => by omega)
    clear hkl hup hFl hFm HVS HVR HVL HK29 HOWN9 HOWNS
    go_wp2_with fail
    rw [← HW9.out]
    refine HAL.out.mono ?_
    rintro e w10 ⟨R, g1, rfl, hR, hO, hb10⟩
    have hRl : R.length = n := by rw [hR.inv.len, HN.out]
    have HOR := Lib.hid hO
    have HR := Lib.hid hR
    have HB10 := Lib.hid hb10
    have hFm10 := (HFM.out.keep (kept_below hb10)).more (S' := Lt w10.heap.size) fun b hb => Nat.lt_of_lt_of_le hb hb10.size
    have HAM := Lib.hid (all_any _ _ w10 (HSM.out.grow HF.out) hFm10)
    rw [hRl]
    have HRL := Lib.hid hRl
    have HRB : Hid (∀ (i : Nat) (x : List Key), R[i]? = some x → x.length ≤ 100000000) := Lib.hid fun i x h => outs_small hR HSM.out.fit h
    clear hR hO hb10 hFm10 hRl HW9 HAL HFM
    go_wp2_with fail
    refine HAM.out.mono ?_
    rintro e wc ⟨R', g2, rfl, hR', hO', hb11⟩
    have hRl' : R'.length = n := by rw [hR'.inv.len, List.length_set, HN.out]
    rw [hRl']
    have hle := grow_le HF.out HR.out hR'
    have HLE := Lib.hid hle
    have HRB' : Hid (∀ (i : Nat) (x : List Key), R'[i]? = some x → x.length ≤ 100000000) := Lib.hid fun i x h => outs_small hR' (HSM.out.grow HF.out) h
    have HRL' := Lib.hid hRl'
    have HO' := Lib.hid hO'
    have HO := Lib.hid (HOR.out.below hb11)
    have hs1011 := hb11.size
    have hs910 := HB10.out.size
    have HBC := Lib.hid ((HB9.out.trans (HB10.out.mono HB9.out.size)).trans (hb11.mono (by have := HB9.out.size; omega)))
    have hsc := HBC.out.size
    clear hle hRl' hO' hR' hb11 HOR HAM HR HB9 HB10
    go_wp2_with fail
    go_loopw [9] (fun i wr => ∃ q : Nat, q ≤ n ∧ i = .int .i64 q ∧ Below wc.heap.size wc wr) (fun i _ => n - (intOf i).toNat)
    case atStart => exact ⟨0, by omega, rfl, Below.refl _ _⟩
    case round =>
      obtain ⟨q, hqn, rfl, hB⟩ := hrel
      have HB := Lib.hid hB
      clear hB
      by_cases hlt : q < n
      · obtain ⟨ai, hai⟩ : ∃ ai, R[q]? = some ai := ⟨_, List.getElem?_eq_getElem (by rw [HRL.out]; exact hlt)⟩
        obtain ⟨bi, hbi⟩ : ∃ bi, R'[q]? = some bi := ⟨_, List.getElem?_eq_getElem (by rw [HRL'.out]; exact hlt)⟩
        obtain ⟨va, ca, _, AA, ac, rfl, _, hra⟩ := HO.out.at_ hai
        obtain ⟨vb, cb, _, BA, bc, rfl, _, hrb⟩ := HO'.out.at_ hbi
        have hla := HRB.out q ai hai
        have hlb := HRB'.out q bi hbi
        have HSUB : Hid (∀ x ∈ ai, x ∈ bi) := Lib.hid fun x hx => by
          have := HLE.out q x
          rw [getL_of hai, getL_of hbi] at this
          exact this hx
        have hra := hra.more (S' := Lt wc.heap.size) fun b hb => hb.1.2
        have hrb := hrb.more (S' := Lt wc.heap.size) fun b hb => hb.1.2
        have HRA := Lib.hid hra
        have HRBI := Lib.hid hrb
        have CA := Lib.hid ca
        have CB := Lib.hid cb
        obtain ⟨za, hza⟩ : ∃ za, za = ai.length := ⟨_, rfl⟩
        obtain ⟨zb, hzb⟩ : ∃ zb, zb = bi.length := ⟨_, rfl⟩
        rw [← hza] at hla CA
        rw [← hzb] at hlb CB
        have HZA := Lib.hid hza
        have HZB := Lib.hid hzb
        have hiq : (0 : Int) ≤ (q : Int) ∧ (q : Int) < (n : Int) := ⟨by omega, by omega⟩
        clear hai hbi ca cb hra hrb hza hzb
        go_wp2_with fail
        go_loopw [10] (fun j wr => ∃ p : Nat, p ≤ za ∧ j = .int .i64 p ∧ Below wc.heap.size wc wr) (fun j _ => za - (intOf j).toNat)
        case atStart => exact ⟨0, by omega, rfl, HB.out⟩
        case round =>
          obtain ⟨p1, hpz, rfl, hB1⟩ := hrel
          have ca := (hB1.cell (block_lt_of_cell CA.out)).trans CA.out
          have HB1 := Lib.hid hB1
          clear hB1 HB
          by_cases hlj : p1 < za
          · obtain ⟨x, hx⟩ : ∃ x, ai[p1]? = some x := ⟨_, List.getElem?_eq_getElem (by rw [← HZA.out]; exact hlj)⟩
            have HX1 := Lib.hid hx
            clear hx
            go_wp2_with fail
            go_loopw [11, 12] (fun th i wr => ∃ t : Nat, t ≤ zb ∧ i = .int .i64 t ∧ th = .bool (decide (x ∈ bi.take t)) ∧ Below wc.heap.size wc wr) (fun _ i _ => zb - (intOf i).toNat)
            case atStart => exact ⟨0, by omega, rfl, by simp, HB1.out⟩
            case round =>
              obtain ⟨t, htz, rfl, rfl, hB2⟩ := hrel
              have ca := (hB2.cell (block_lt_of_cell CA.out)).trans CA.out
              have cb := (hB2.cell (block_lt_of_cell CB.out)).trans CB.out
              have HB2 := Lib.hid hB2
              clear hB2 HB1
              by_cases hlt2 : t < zb
              · obtain ⟨y, hy⟩ : ∃ y, bi[t]? = some y := ⟨_, List.getElem?_eq_getElem (by rw [← HZB.out]; exact hlt2)⟩
                obtain ⟨ad, rfl, _, a0, a1⟩ := bd_at (HRA.out.keep (kept_below HB2.out)) HX1.out
                obtain ⟨be, rfl, _, b0, b1⟩ := bd_at (HRBI.out.keep (kept_below HB2.out)) hy
                have HTK : Hid (bi.take (t + 1) = bi.take t ++ [y]) := Lib.hid (by rw [List.take_add_one, hy]; rfl)
                clear hy
                have hij : (0 : Int) ≤ (p1 : Int) ∧ (p1 : Int) < (za : Int) := ⟨by omega, by omega⟩
                have hik : (0 : Int) ≤ (t : Int) ∧ (t : Int) < (zb : Int) := ⟨by omega, by omega⟩
                go_wp2_with fail
                by_cases hin : x ∈ bi.take t
                · have hq : decide (x ∈ bi.take t) = true := decide_eq_true hin
                  have HIN : Hid (decide (x ∈ bi.take (t + 1)) = true) := Lib.hid (decide_eq_true (by rw [HTK.out]; exact List.mem_append_left _ hin))
                  rw [hq]
                  clear hq hin
                  refine wp_region_mix (AtCells []) [(true, 0), (true, 1), (true, 2), (true, 3), (true, 4), (true, 5), (true, 6), (true, 7), (true, 8), (true, 9), (true, 10), (true, 11), (true, 12), (true, 13), (true, 14), (true, 15), (true, 16), (true, 17)] [18] (by kernel_rfl) (by kernel_rfl) ?sa ?ha
                  case sa => exact trivial
                  case ha =>
                  simp only [mixAt, List.filterMap_cons, List.filterMap_nil, List.getElem?_toArray, List.getElem?_cons_succ, List.getElem?_cons_zero, Option.map_some]
                  refine wpMix_load ?va0 rfl (fun w' hS => ?ya0) ?ka0
                  case ya0 =>
                    obtain _ := hS
                    go_simp
                    try rfl
                  case ka0 =>
                  go_simp
                  refine wpMix_load ?va1 rfl (fun w' hS => ?ya1) ?ka1
                  case ya1 =>
                    obtain _ := hS
                    go_simp
                    try rfl
                  case ka1 =>
                  go_simp
                  refine wpMix_skip rfl ?_
                  go_simp
                  refine wpMix_skip rfl ?_
                  go_simp
                  refine wpMix_skip rfl ?_
                  go_simp
                  refine wpMix_skip rfl ?_
                  go_simp
                  refine wpMix_skip rfl ?_
                  go_simp
                  refine wpMix_skip rfl ?_
                  go_simp
                  refine wpMix_skip rfl ?_
                  go_simp
                  refine wpMix_skip rfl ?_
                  go_simp
                  refine wpMix_skip rfl ?_
                  go_simp
                  refine wpMix_skip rfl ?_
                  go_simp
                  refine wpMix_skip rfl ?_
                  go_simp
                  refine wpMix_skip rfl ?_
                  go_simp
                  refine wpMix_skip rfl ?_
                  go_simp
                  refine wpMix_skip rfl ?_
                  go_simp
                  refine wpMix_skip rfl ?_
                  go_simp
                  refine wpMix_load ?vb17 rfl (fun w' hS => ?yb17) ?kb17
                  case yb17 =>
                    obtain _ := hS
                    go_simp
                    try rfl
                  case kb17 =>
                  go_simp
                  refine wpMix_nil ?_
                  simp only [opsAt, List.filterMap_cons, List.filterMap_nil, List.getElem?_toArray, List.getElem?_cons_succ, List.getElem?_cons_zero]
                  go_wp2
                  refine NoPanic.normal ?_
                  go_wp2
                  go_roundw
                  case rel => exact ⟨t + 1, by omega, by go_num, by rw [HIN.out], HB2.out.drew⟩
                  case measure => simp [intOf]; omega
                · have hq : decide (x ∈ bi.take t) = false := decide_eq_false hin
                  have HIN : Hid (decide (x ∈ bi.take (t + 1)) = decide (y = x)) := Lib.hid (by
                    rw [HTK.out]
                    by_cases e : y = x
                    · simp [e]
                    · simp [e, hin, Ne.symm e])
                  rw [hq]
                  clear hq hin
                  refine wp_region_mix (AtCells [(⟨g1, q, none⟩, .slice (some ad) za ac), (⟨g2, q, none⟩, .slice (some be) zb bc), (ad.add (p1 * 2), sv x.1), (⟨(ad.add (p1 * 2)).block, (ad.add (p1 * 2)).off + 1, none⟩, sv x.2), (be.add (t * 2), sv y.1), (⟨(be.add (t * 2)).block, (be.add (t * 2)).off + 1, none⟩, sv y.2)]) [(true, 0), (true, 1), (true, 2), (true, 3), (true, 4), (true, 5), (true, 6), (true, 7), (true, 8), (true, 9), (true, 10), (true, 11), (true, 12), (true, 13), (true, 14), (true, 15), (true, 16), (true, 17)] [18] (by kernel_rfl) (by kernel_rfl) ?sb ?hb
                  case sb => exact ⟨ca, cb, a0, a1, b0, b1, trivial⟩
                  case hb =>
                  clear ca cb a0 a1 b0 b1
                  simp only [mixAt, List.filterMap_cons, List.filterMap_nil, List.getElem?_toArray, List.getElem?_cons_succ, List.getElem?_cons_zero, Option.map_some]
                  refine wpMix_load ?vc0 rfl (fun w' hS => ?yc0) ?kc0
                  case yc0 =>
                    obtain ⟨g1, g2, g3, g4, g5, g6, _⟩ := hS
                    go_simp
                    try rfl
                  case kc0 =>
                  go_simp
                  refine wpMix_load ?vc1 rfl (fun w' hS => ?yc1) ?kc1
                  case yc1 =>
                    obtain ⟨g1, g2, g3, g4, g5, g6, _⟩ := hS
                    go_simp
                    try rfl
                  case kc1 =>
                  go_simp
                  refine wpMix_load ?vc2 rfl (fun w' hS => ?yc2) ?kc2
                  case yc2 =>
                    obtain ⟨g1, g2, g3, g4, g5, g6, _⟩ := hS
                    go_simp
                    try rfl
                  case kc2 =>
                  go_simp
                  refine wpMix_load ?vc3 rfl (fun w' hS => ?yc3) ?kc3
                  case yc3 =>
                    obtain ⟨g1, g2, g3, g4, g5, g6, _⟩ := hS
                    go_simp
                    try rfl
                  case kc3 =>
                  go_simp
                  refine wpMix_load ?vc4 rfl (fun w' hS => ?yc4) ?kc4
                  case yc4 =>
                    obtain ⟨g1, g2, g3, g4, g5, g6, _⟩ := hS
                    go_simp
                    try rfl
                  case kc4 =>
                  go_simp
                  refine wpMix_load ?vc5 rfl (fun w' hS => ?yc5) ?kc5
                  case yc5 =>
                    obtain ⟨g1, g2, g3, g4, g5, g6, _⟩ := hS
                    go_simp
                    try rfl
                  case kc5 =>
                  go_simp
                  refine wpMix_load ?vc6 rfl (fun w' hS => ?yc6) ?kc6
                  case yc6 =>
                    obtain ⟨g1, g2, g3, g4, g5, g6, _⟩ := hS
                    go_simp
                    try rfl
                  case kc6 =>
                  go_simp
                  refine wpMix_load ?vc7 rfl (fun w' hS => ?yc7) ?kc7
                  case yc7 =>
                    obtain ⟨g1, g2, g3, g4, g5, g6, _⟩ := hS
                    go_simp
                    try rfl
                  case kc7 =>
                  go_simp
                  refine wpMix_load ?vc8 rfl (fun w' hS => ?yc8) ?kc8
                  case yc8 =>
                    obtain ⟨g1, g2, g3, g4, g5, g6, _⟩ := hS
                    go_simp
                    try rfl
                  case kc8 =>
                  go_simp
                  refine wpMix_load ?vc9 rfl (fun w' hS => ?yc9) ?kc9
                  case yc9 =>
                    obtain ⟨g1, g2, g3, g4, g5, g6, _⟩ := hS
                    go_simp
                    try rfl
                  case kc9 =>
                  go_simp
                  refine wpMix_load ?vc10 rfl (fun w' hS => ?yc10) ?kc10
                  case yc10 =>
                    obtain ⟨g1, g2, g3, g4, g5, g6, _⟩ := hS
                    go_simp
                    try rfl
                  case kc10 =>
                  go_simp
                  refine wpMix_load ?vc11 rfl (fun w' hS => ?yc11) ?kc11
                  case yc11 =>
                    obtain ⟨g1, g2, g3, g4, g5, g6, _⟩ := hS
                    go_simp
                    try rfl
                  case kc11 =>
                  go_simp
                  refine wpMix_load ?vc12 rfl (fun w' hS => ?yc12) ?kc12
                  case yc12 =>
                    obtain ⟨g1, g2, g3, g4, g5, g6, _⟩ := hS
                    go_simp
                    try rfl
                  case kc12 =>
                  go_simp
                  refine wpMix_load ?vc13 rfl (fun w' hS => ?yc13) ?kc13
                  case yc13 =>
                    obtain ⟨g1, g2, g3, g4, g5, g6, _⟩ := hS
                    go_simp
                    try rfl
                  case kc13 =>
                  go_simp
                  refine wpMix_load ?vc14 rfl (fun w' hS => ?yc14) ?kc14
                  case yc14 =>
                    obtain ⟨g1, g2, g3, g4, g5, g6, _⟩ := hS
                    go_simp
                    try rfl
                  case kc14 =>
                  go_simp
                  refine wpMix_load ?vc15 rfl (fun w' hS => ?yc15) ?kc15
                  case yc15 =>
                    obtain ⟨g1, g2, g3, g4, g5, g6, _⟩ := hS
                    go_simp
                    try rfl
                  case kc15 =>
                  go_simp
                  refine wpMix_load (.bool (decide (y = x))) rfl (fun w' hS => ?y16) ?k16
                  case y16 =>
                    obtain ⟨g1, g2, g3, g4, g5, g6, _⟩ := hS
                    go_simp
                    simp only [bs_toList]
                    by_cases h1 : y.1 = x.1 <;> by_cases h2 : y.2 = x.2 <;> simp [h1, h2, Prod.ext_iff]
                  case k16 =>
                  go_simp
                  refine wpMix_load ?vd17 rfl (fun w' hS => ?yd17) ?kd17
                  case yd17 =>
                    obtain _ := hS
                    go_simp
                    try rfl
                  case kd17 =>
                  go_simp
                  refine wpMix_nil ?_
                  simp only [opsAt, List.filterMap_cons, List.filterMap_nil, List.getElem?_toArray, List.getElem?_cons_succ, List.getElem?_cons_zero]
                  go_wp2
                  refine NoPanic.normal ?_
                  go_wp2
                  go_roundw
                  case rel => exact ⟨t + 1, by omega, by go_num, by rw [HIN.out], HB2.out.drew⟩
                  case measure => simp [intOf]; omega
              · have hin : decide (x ∈ bi.take t) = true := decide_eq_true (by
                  rw [List.take_of_length_le (by rw [← HZB.out]; omega)]
                  exact HSUB.out x (List.mem_of_getElem? HX1.out))
                rw [hin]
                clear hin
                go_wp2
                go_roundw
                case rel => exact ⟨p1 + 1, by omega, by go_num, HB2.out⟩
                case measure => simp [intOf]; omega
          · go_wp2
            go_roundw
            case rel => exact ⟨q + 1, by omega, by go_num, HB1.out⟩
            case measure => simp [intOf]; omega
      · go_wp2_with fail
        refine (awake_any wr).mono ?_
        rintro e wz ⟨rfl, hbz⟩
        have HBz := Lib.hid ((HBC.out.trans (HB.out.mono HBC.out.size)).trans (hbz.mono (by have := HBC.out.size; have := HB.out.size; omega)))
        clear hbz
        go_wp2
        go_ret
        exact ⟨rfl, HBz.out⟩

theorem law_all (xs : List Int) (TA : Option Addr) (tc : Nat) (w : World) (hA : Row w (Lt w.heap.size) TA (xs.map (Value.int .i64))) (hf : ∀ x ∈ xs, -9223372036854775808 ≤ x ∧ x ≤ 9223372036854775807) :
    Calls Try.prog 5 #[.slice TA xs.length tc] w fun e w' => e = .returned (.bool true) ∧ Below w.heap.size w w' := by
  by_cases h : xs.length ≤ 400
  · exact grow_light xs TA tc w hA h hf
  · exact grow_heavy xs.length TA tc w h
end Go.Proofs.Ytcliegpofhjpcaa
