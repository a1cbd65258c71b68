/-
  The walk of law40's DeltaTurned.
  Conditions: the numbers lie in memory.
-/
import Derived.Test.YtlgdminpkkhejaaDtK
import Derived.Test.YtlgdminpkkhejaaDtG
import Derived.Test.YtlgdminpkkhejaaDtB
namespace Go.Proofs.Ytlgdminpkkhejaa
open Go.RowKit

theorem Row.kept {w w' : World} {M : Nat → Prop} {A : Option Addr} {xs : List Value} (h : Row w (Lt w.heap.size) A xs) (hk : Kp M w w') (hM : ∀ y, M y → w.heap.size ≤ y) : Row w' (Lt w'.heap.size) A xs :=
  (h.keep (hk.kept fun b hb => ⟨hb, fun e => by have := hM b e; have hb : b < w.heap.size := hb; omega⟩)).more fun b hb => Nat.lt_of_lt_of_le hb hk.size
theorem DlV.kept {w w' : World} {M : Nat → Prop} {v : Value} {d : Dl} (h : DlV w (Lt w.heap.size) v d) (hk : Kp M w w') (hM : ∀ y, M y → w.heap.size ≤ y) : DlV w' (Lt w'.heap.size) v d := by
  obtain ⟨A1, A2, A3, c1, c2, c3, e, h1, h2, h3, h4, h5, r1, r2, r3⟩ := h
  exact ⟨A1, A2, A3, c1, c2, c3, e, h1, h2, h3, h4, h5, r1.kept hk hM, r2.kept hk hM, r3.kept hk hM⟩
set_option maxHeartbeats 1600000 in
set_option maxRecDepth 100000 in
theorem turn_heavy (n : Nat) (A : Option Addr) (c : Nat) (w : World) (hn : ¬ n ≤ 400) :
    Calls Try.prog 6 #[.slice A n c] w fun e w' => e = .returned (.bool true) ∧ Below w.heap.size w w' := by
  have HLI := Lib.hid (light_any n A c w)
  rw [decide_eq_false hn] at HLI
  have HAW := Lib.hid (awake_any w)
  clear hn
  go_enter Try.func6, Try.ntmps6
  go_wp2_with fail
  refine HLI.out.mono ?_
  rintro e w1 ⟨rfl, rfl⟩
  go_wp2_with fail
  refine HAW.out.mono ?_
  rintro e w2 ⟨rfl, hb⟩
  go_wp2
  go_ret
  exact ⟨rfl, hb⟩
set_option maxHeartbeats 6400000 in
set_option maxRecDepth 100000 in
theorem turn_light (xs : List Int) (A : Option Addr) (c : Nat) (w : World) (hA : Row w (Lt w.heap.size) A (xs.map (Value.int .i64))) (hn : xs.length ≤ 400) (hf : ∀ x ∈ xs, -9223372036854775808 ≤ x ∧ x ≤ 9223372036854775807) :
    Calls Try.prog 6 #[.slice A xs.length c] w fun e w' => e = .returned (.bool true) ∧ Below w.heap.size w w' := by
  have HLI := Lib.hid (light_any xs.length A c w)
  rw [decide_eq_true hn] at HLI
  have HRO := Lib.hid (roll_any xs A c w hA hn hf)
  obtain ⟨z, hz⟩ : ∃ z, z = xs.length := ⟨_, rfl⟩
  rw [← hz] at HLI HRO ⊢
  obtain ⟨i0, hi, hz0, hz1, hz2⟩ := info_parts infoMs
  clear hA hn hz hf
  go_enter Try.func6, Try.ntmps6
  go_wp2_with fail
  refine HLI.out.mono ?_
  rintro e w0 ⟨rfl, rfl⟩
  go_wp2_with fail
  refine HRO.out.mono ?_
  rintro e w1 ⟨rfl, hD1, hb1⟩
  have HB1 := Lib.hid hb1
  have hs1 := hb1.size
  have hd1 := hD1.lt
  have HM1 := Lib.hid (msgs_any 9 w.heap.size xs w1 (by decide) hD1)
  clear hD1 hb1 HRO HLI
  go_wp2_with fail
  refine HM1.out.mono ?_
  rintro e w2 ⟨v2, old, rfl, hown2, hol, _, hD2, hK2⟩
  obtain ⟨OA, oc, rfl, hon⟩ := own_slice hown2
  have HB2 := Lib.hid (kp_below HB1.out hK2 fun y e => by omega)
  have HM2 := Lib.hid (msgs_any 9 w.heap.size xs w2 (by decide) hD2)
  have HO2 := Lib.hid hown2
  have hs2 := hK2.size
  clear hD2 hK2 HM1 hown2
  go_wp2_with fail
  refine HM2.out.mono ?_
  rintro e w3 ⟨v3, now, rfl, hown3, hnl, _, hD3, hK3⟩
  obtain ⟨NA, nc, rfl, hnn⟩ := own_slice hown3
  have hB3 := kp_below HB2.out hK3 fun y e => by omega
  have HRO := Lib.hid (Row.ofOwn (S := Lt w3.heap.size) (hK3.own HO2.out fun g hg e => by have := (HO2.out.lt g hg).1; have e : g = w.heap.size := e; omega) fun _ _ _ h => h)
  have HRN := Lib.hid (Row.ofOwn (S := Lt w3.heap.size) hown3 fun _ _ _ h => h)
  have HB3 := Lib.hid hB3
  have hs3 := hK3.size
  clear hD3 hK3 HM2 hown3 hB3 HO2 HB2 HB1
  have HF := Lib.hid (dof_any old now OA NA oc nc w3 (by omega) (by omega) hon hnn HRO.out HRN.out)
  have HF2 := Lib.hid fun w4 (hb : Below w3.heap.size w3 w4) => dof_any now old NA OA nc oc w4 (by omega) (by omega) hnn hon (HRN.out.below hb) (HRO.out.below hb)
  have HAP := Lib.hid fun w4 v (hb : Below w3.heap.size w3 w4) hD hl => apply_any now (ofM now old) v NA nc w4 (by omega) hnn (HRN.out.below hb) hD hl
  have HSO := Lib.hid fun w4 (hb : Below w3.heap.size w3 w4) => sorted_any (Lt w4.heap.size) old OA oc w4 (by omega) hon (HRO.out.below hb)
  have hcount := turn_len old now
  have hmf := mate_few (goneM now old) (goneM old now)
  have hmf2 := mate_few (goneM old now) (goneM now old)
  have hgl1 := gone_len old now
  have hgl2 := gone_len now old
  obtain ⟨x, hx⟩ : ∃ x, x = ofM old now := ⟨_, rfl⟩
  obtain ⟨y, hy⟩ : ∃ y, y = ofM now old := ⟨_, rfl⟩
  have hag : x.gone = y.come := by rw [hx, hy]; exact turn_gone old now
  have hac : x.come = y.gone := by rw [hx, hy]; exact turn_come old now
  have ham : x.moved.length = y.moved.length := by rw [hx, hy]; exact hcount
  have hpm : (x.moved.map srcOf).Perm (y.moved.map (·.2.2)) := by rw [hx, hy]; exact turn_moved old now
  have hap : applyM now y = some (srtM old) := by rw [hy]; exact apply_of now old
  have hla : x.gone.length ≤ 9 := by rw [hx]; show (mateM old now).2.2.length ≤ 9; unfold mateM; omega
  have hlb : x.come.length ≤ 9 := by rw [hx]; show (mateM old now).1.length ≤ 9; unfold mateM; omega
  have hlm : x.moved.length ≤ 9 := by rw [hx]; show ((mateM old now).2.1.map mvOf).length ≤ 9; unfold mateM; rw [List.length_map]; omega
  rw [← hx] at HF
  rw [← hy] at HF2 HAP
  rw [hap] at HAP
  obtain ⟨n, hn⟩ : ∃ n, n = old.length := ⟨_, rfl⟩
  obtain ⟨p, hp⟩ : ∃ p, p = now.length := ⟨_, rfl⟩
  rw [← hn] at HF HF2 HSO ⊢
  rw [← hp] at HF HF2 HAP ⊢
  have HMF := Lib.hid (And.intro hag (And.intro hac (And.intro ham hpm)))
  have HN := Lib.hid hn
  have hn9 : n ≤ 9 := by omega
  have hp9 : p ≤ 9 := by omega
  clear hn hp hx hy hmf hmf2 hgl1 hgl2 hcount hap hag hac ham hpm hon hnn HRO HRN hol hnl
  go_wp2_with fail
  refine HF.out.mono ?_
  rintro e w4 ⟨v4, rfl, hD4, hb4⟩
  have hD4 := hD4.more (S' := Lt w4.heap.size) fun y hy => hy.2
  have HF3 := Lib.hid (HF2.out w4 hb4)
  have HD4 := Lib.hid hD4
  have HB4 := Lib.hid hb4
  have hs4 := hb4.size
  clear hD4 hb4 HF HF2
  go_wp2_with fail
  refine HF3.out.mono ?_
  rintro e w5 ⟨v5, rfl, hD5, hb5⟩
  have hD5 := hD5.more (S' := Lt w5.heap.size) fun y hy => hy.2
  have hDx := HD4.out.below hb5
  have HDY := Lib.hid hD5
  obtain ⟨X1, X2, X3, xc1, xc2, xc3, rfl, xn1, xn2, xk1, xk2, xk3, xr1, xr2, xr3⟩ := hDx
  obtain ⟨Y1, Y2, Y3, yc1, yc2, yc3, rfl, yn1, yn2, yk1, yk2, yk3, yr1, yr2, yr3⟩ := hD5
  obtain ⟨hag, hac, ham, hpm⟩ := HMF.out
  obtain ⟨a, ha⟩ : ∃ a, a = x.gone.length := ⟨_, rfl⟩
  obtain ⟨b, hb⟩ : ∃ b, b = x.come.length := ⟨_, rfl⟩
  obtain ⟨m, hm⟩ : ∃ m, m = x.moved.length := ⟨_, rfl⟩
  rw [← ha] at xk1 hla ⊢
  rw [← hb] at xk2 hlb ⊢
  rw [← hm] at xk3 hlm ⊢
  rw [← ham, ← hm] at yk3 HDY ⊢
  rw [← hag, ← ha] at yk2 HDY ⊢
  rw [← hac, ← hb] at yk1 HDY ⊢
  rw [← hac] at yr1
  rw [← hag] at yr2
  have HXR := Lib.hid (And.intro xr1 (And.intro xr2 (And.intro xr3 (And.intro yr1 (And.intro yr2 yr3)))))
  have HXN := Lib.hid (And.intro xn1 (And.intro xn2 (And.intro yn1 yn2)))
  have HLN := Lib.hid (And.intro ha (And.intro hb hm))
  have HB5 := Lib.hid (HB4.out.trans (hb5.mono hs4))
  have hs5 := hb5.size
  clear xr1 xr2 xr3 yr1 yr2 yr3 xn1 xn2 yn1 yn2 hag hac ham hpm ha hb hm hb5 HD4 HB4 HF3
  obtain ⟨w6, hw6⟩ : ∃ w6, w6 = (w5.alloc (.cells #[.slice X1 a xc1, .slice X2 b xc2, .slice X3 m xc3] 25)).alloc (.cells #[.slice Y1 b yc1, .slice Y2 a yc2, .slice Y3 m yc3] 25) := ⟨_, rfl⟩
  have hb6 : Below w5.heap.size w5 w6 := by rw [hw6]; exact ((Below.refl _ _).alloc (Nat.le_refl _) _).alloc (by simp) _
  have hs6 : w6.heap.size = w5.heap.size + 2 := by rw [hw6]; simp
  have h2 := alloc2 w5 (.cells #[.slice X1 a xc1, .slice X2 b xc2, .slice X3 m xc3] 25) (.cells #[.slice Y1 b yc1, .slice Y2 a yc2, .slice Y3 m yc3] 25)
  rw [← hw6] at h2
  obtain ⟨hxb, hyb⟩ := h2
  obtain ⟨xr1, xr2, xr3, yr1, yr2, yr3⟩ := HXR.out
  obtain ⟨ha, hb, hm⟩ := HLN.out
  have hS1 := sameList_any x.gone x.gone X1 Y2 xc1 yc2 w6 (by omega) (xr1.below hb6) (yr2.below hb6)
  rw [← ha] at hS1
  have HS1 := Lib.hid hS1
  have HS2 := Lib.hid fun w7 (hb7 : Below w5.heap.size w5 w7) => sameList_any x.come x.come X2 Y1 xc2 yc1 w7 (by omega) (xr2.below hb7) (yr1.below hb7)
  rw [← hb] at HS2
  have HX3 := Lib.hid fun w7 (hb7 : Below w5.heap.size w5 w7) => xr3.below hb7
  have HY3 := Lib.hid fun w7 (hb7 : Below w5.heap.size w5 w7) => yr3.below hb7
  have HDV := Lib.hid fun w7 (hb7 : Below w5.heap.size w5 w7) => HDY.out.below hb7
  have HBX := Lib.hid hxb
  have HBY := Lib.hid hyb
  have HB6 := Lib.hid hb6
  have HW6 := Lib.hid hw6
  clear hw6 xr1 xr2 xr3 yr1 yr2 yr3 ha hb hm hS1 hxb hyb hb6 HDY HXR
  go_wp2_with fail
  rw [← HW6.out]
  refine HS1.out.mono ?_
  rintro e w7 ⟨r, rfl, hr, hb7⟩
  obtain rfl : r = true := by simpa using hr
  have hb57 := HB6.out.trans (hb7.mono HB6.out.size)
  have hxb := (hb7.block _ (lt_of_heap HBX.out)).trans HBX.out
  have hyb := (hb7.block _ (lt_of_heap HBY.out)).trans HBY.out
  have HBX7 := Lib.hid hxb
  have HBY7 := Lib.hid hyb
  have HS3 := Lib.hid (HS2.out w7 hb57)
  have HB7 := Lib.hid hb57
  have hs7 := hb7.size
  have x1 : w7.cell? ⟨w5.heap.size, 1, none⟩ = some (.slice X2 b xc2) := (Lib.cell_of_heap hxb _).trans rfl
  have y0 : w7.cell? ⟨w5.heap.size + 1, 0, none⟩ = some (.slice Y1 b yc1) := (Lib.cell_of_heap hyb _).trans rfl
  clear hb7 hr hb57 hxb hyb HBX HBY HB6 HW6 HS1 HS2
  go_wp2_with fail
  refine HS3.out.mono ?_
  rintro e w8 ⟨r, rfl, hr, hb8⟩
  obtain rfl : r = true := by simpa using hr
  have hb58 := HB7.out.trans (hb8.mono HB7.out.size)
  have hxb := (hb8.block _ (lt_of_heap HBX7.out)).trans HBX7.out
  have hyb := (hb8.block _ (lt_of_heap HBY7.out)).trans HBY7.out
  have HBX8 := Lib.hid hxb
  have HBY8 := Lib.hid hyb
  have HB8 := Lib.hid hb58
  have hs8 := hb8.size
  have x2 : w8.cell? ⟨w5.heap.size, 2, none⟩ = some (.slice X3 m xc3) := (Lib.cell_of_heap hxb _).trans rfl
  have y2 : w8.cell? ⟨w5.heap.size + 1, 2, none⟩ = some (.slice Y3 m yc3) := (Lib.cell_of_heap hyb _).trans rfl
  clear hb8 hr hb58 hxb hyb HBX7 HBY7 HB7 HS3 x1 y0
  go_wp2_with fail
  go_loopw [8, 59] (fun av i wr => ∃ k : Nat, k ≤ m ∧ i = .int .i64 k ∧ Below w8.heap.size w8 wr ∧ wr.ownsRow w8.heap.size 40 3 av k (flt msC ((x.moved.take k).map srcOf))) (fun _ i _ => m - (intOf i).toNat)
  case atStart => exact ⟨0, by omega, rfl, Below.refl _ _, World.ownsRow_nil _ _ _ _⟩
  case round =>
    obtain ⟨k, hkm, rfl, hB, hoa⟩ := hrel
    obtain ⟨GA, gc, rfl, hgn⟩ := own_slice hoa
    have hbs := hB.size
    by_cases hlt : k < m
    · obtain ⟨v, hv⟩ : ∃ v, x.moved[k]? = some v := ⟨_, List.getElem?_eq_getElem (by rw [← HLN.out.2.2]; exact hlt)⟩
      obtain ⟨ad, hA, _, a0, a1, a2, a3, a4⟩ := mv_at (HX3.out wr (HB8.out.trans (hB.mono HB8.out.size))) hv
      have hik : (0 : Int) ≤ (k : Int) ∧ (k : Int) < (m : Int) := ⟨by omega, by omega⟩
      have HTK : Hid (x.moved.take (k + 1) = x.moved.take k ++ [v]) := Lib.hid (take_snoc hv)
      rw [hA]
      have HAD := Lib.hid hA
      have HOA := Lib.hid hoa
      have HBR := Lib.hid hB
      obtain ⟨wt, hwt⟩ : ∃ wt, wt = (wr.alloc (.cells #[.int .i64 v.1, .int .i64 v.2.1, .int .i64 v.2.2.1, .int .i64 v.2.2.2.1, sv v.2.2.2.2] 42)).alloc (.cells #[.int .i64 v.1, .int .i64 v.2.2.2.1, sv v.2.2.2.2] 40) := ⟨_, rfl⟩
      have hbt : Below wr.heap.size wr wt := by rw [hwt]; exact ((Below.refl _ _).alloc (Nat.le_refl _) _).alloc (by simp) _
      have hst : wt.heap.size = wr.heap.size + 2 := by rw [hwt]; simp
      have hot := ((Kp.ofBelow (M := fun _ => False) hbt).own hoa fun _ _ e => e).alloc (.cells #[.int .i64 v.1, .int .i64 v.2.2.2.1, sv v.2.2.2.2] 40)
      have hnew := World.news_of_block (cs := #[.int .i64 v.1, .int .i64 v.2.2.2.1, sv v.2.2.2.2]) (alloc1 wt (.cells #[.int .i64 v.1, .int .i64 v.2.2.2.1, sv v.2.2.2.2] 40))
      rw [hst] at hnew
      rw [hwt] at hot hnew
      have HOT := Lib.hid hot
      have HNEW := Lib.hid hnew
      have HWT := Lib.hid hwt
      have HST := Lib.hid hst
      have HBT := Lib.hid (hB.trans (hbt.mono hbs))
      clear hv hA hB hoa hgn x2 y2 hwt hbt hst hot hnew
      go_wp2_with (at_builtin; go_loud (refine wpList_append_lies _ rfl _ _ 22 rfl w8.heap.size 40 i0 _ 3 32 Try.underlying22 hi hz0 hz1 hz2 rfl (by omega) (.slice GA k gc) k (flt msC ((x.moved.take k).map srcOf)) rfl HOT.out ⟨wr.heap.size + 2, 0, none⟩ 1 1 [.int .i64 v.1, .int .i64 v.2.2.2.1, sv v.2.2.2.2] rfl rfl HNEW.out ?d2 (by omega) ?d3 ?d4 ?d5 _ rfl ?_))
      case d2 => exact ⟨rfl, rfl, rfl⟩
      case d3 => unfold maxLen; omega
      case d4 => omega
      case d5 => first | omega | (simp; omega)
      intro vg vcap w10 hown10 hgr hat _
      have hlt' := HOA.out.lt
      have hk10 : Kp (fun y => (Value.slice GA k gc).ownBlock = some y) wt w10 := by
        rw [HWT.out]
        exact ((Kp.refl _ _).alloc (.cells #[.int .i64 v.1, .int .i64 v.2.2.2.1, sv v.2.2.2.2] 40)).grown hgr fun r hr _ => hr
      have HBN := Lib.hid (kp_below HBT.out hk10 fun y e => (hlt' y e).1)
      have e1 : (x.moved.take (k + 1)).map srcOf = (x.moved.take k).map srcOf ++ [srcOf v] := by rw [HTK.out, List.map_append]; rfl
      have HREL : Hid (w10.ownsRow w8.heap.size 40 3 (.slice (some ⟨vg, 0, none⟩) (k + 1) vcap) (k + 1) (flt msC ((x.moved.take (k + 1)).map srcOf))) := Lib.hid (by rw [e1, flt_append, flt_one, List.map_take]; exact hown10)
      clear hown10 hgr hat hlt' hk10 e1 HOT HNEW HWT HST HBT HOA a0 a1 a2 a3 a4
      go_wp2_with fail
      try rw [← HAD.out]
      first | go_roundw | refine ⟨?rel, ?measure⟩
      case rel => exact ⟨k + 1, by omega, by go_num, HBN.out, HREL.out⟩
      case measure => simp [intOf]; omega
    · obtain rfl : k = m := by omega
      have htk : x.moved.take k = x.moved := List.take_of_length_le (by rw [← HLN.out.2.2]; omega)
      rw [htk] at hoa
      obtain ⟨wa, hwa⟩ : ∃ wa, wa = wr := ⟨_, rfl⟩
      rw [← hwa] at hoa hB hbs ⊢
      have hbx := (hB.block _ (lt_of_heap HBX8.out)).trans HBX8.out
      have hby := (hB.block _ (lt_of_heap HBY8.out)).trans HBY8.out
      have y2 : wa.cell? ⟨w5.heap.size + 1, 2, none⟩ = some (.slice Y3 k yc3) := (Lib.cell_of_heap hby _).trans rfl
      have HBYA := Lib.hid hby
      have HOA := Lib.hid hoa
      have HBA := Lib.hid (HB8.out.trans (hB.mono HB8.out.size))
      have HGN := Lib.hid hgn
      clear hwa hbx hby hoa hB htk x2 hlt hkm hgn HBX8 HBY8 HB8 HX3
      go_wp2_with fail
      go_loopw [9, 76] (fun av i wr => ∃ j : Nat, j ≤ k ∧ i = .int .i64 j ∧ Below wa.heap.size wa wr ∧ wr.ownsRow wa.heap.size 40 3 av j (flt msC ((y.moved.take j).map (·.2.2)))) (fun _ i _ => k - (intOf i).toNat)
      case atStart => exact ⟨0, by omega, rfl, Below.refl _ _, World.ownsRow_nil _ _ _ _⟩
      case round =>
        obtain ⟨j, hjk, rfl, hB, hob⟩ := hrel
        obtain ⟨GB, gd, rfl, hgd⟩ := own_slice hob
        have hbs2 := hB.size
        have HYL : Hid (y.moved.length = k) := Lib.hid (by rw [← HMF.out.2.2.1, ← HLN.out.2.2])
        by_cases hlt : j < k
        · obtain ⟨v, hv⟩ : ∃ v, y.moved[j]? = some v := ⟨_, List.getElem?_eq_getElem (by rw [HYL.out]; exact hlt)⟩
          obtain ⟨ad, hA, _, a0, a1, a2, a3, a4⟩ := mv_at (HY3.out wr (HBA.out.trans (hB.mono HBA.out.size))) hv
          have hik : (0 : Int) ≤ (j : Int) ∧ (j : Int) < (k : Int) := ⟨by omega, by omega⟩
          have HTK : Hid (y.moved.take (j + 1) = y.moved.take j ++ [v]) := Lib.hid (take_snoc hv)
          rw [hA]
          have HAD := Lib.hid hA
          have HOB := Lib.hid hob
          have HBR := Lib.hid hB
          obtain ⟨wt, hwt⟩ : ∃ wt, wt = wr.alloc (.cells #[.int .i64 v.1, .int .i64 v.2.1, .int .i64 v.2.2.1, .int .i64 v.2.2.2.1, sv v.2.2.2.2] 42) := ⟨_, rfl⟩
          have hbt : Below wr.heap.size wr wt := by rw [hwt]; exact (Below.refl _ _).alloc (Nat.le_refl _) _
          have hst : wt.heap.size = wr.heap.size + 1 := by rw [hwt]; simp
          have hot := ((Kp.ofBelow (M := fun _ => False) hbt).own hob fun _ _ e => e).alloc (.cells #[.int .i64 v.2.2.1, .int .i64 v.2.2.2.1, sv v.2.2.2.2] 40)
          have hnew := World.news_of_block (cs := #[.int .i64 v.2.2.1, .int .i64 v.2.2.2.1, sv v.2.2.2.2]) (alloc1 wt (.cells #[.int .i64 v.2.2.1, .int .i64 v.2.2.2.1, sv v.2.2.2.2] 40))
          rw [hst] at hnew
          rw [hwt] at hot hnew
          have HOT := Lib.hid hot
          have HNEW := Lib.hid hnew
          have HWT := Lib.hid hwt
          have HST := Lib.hid hst
          have HBT := Lib.hid (hB.trans (hbt.mono hbs2))
          clear hv hA hB hob hgd y2 hwt hbt hst hot hnew
          go_wp2_with (at_builtin; go_loud (refine wpList_append_lies _ rfl _ _ 22 rfl wa.heap.size 40 i0 _ 3 32 Try.underlying22 hi hz0 hz1 hz2 rfl (by omega) (.slice GB j gd) j (flt msC ((y.moved.take j).map (·.2.2))) rfl HOT.out ⟨wr.heap.size + 1, 0, none⟩ 1 1 [.int .i64 v.2.2.1, .int .i64 v.2.2.2.1, sv v.2.2.2.2] rfl rfl HNEW.out ?d2 (by omega) ?d3 ?d4 ?d5 _ rfl ?_))
          case d2 => exact ⟨rfl, rfl, rfl⟩
          case d3 => unfold maxLen; omega
          case d4 => omega
          case d5 => first | omega | (simp; omega)
          intro vg vcap w10 hown10 hgr hat _
          have hlt' := HOB.out.lt
          have hk10 : Kp (fun y => (Value.slice GB j gd).ownBlock = some y) wt w10 := by
            rw [HWT.out]
            exact ((Kp.refl _ _).alloc (.cells #[.int .i64 v.2.2.1, .int .i64 v.2.2.2.1, sv v.2.2.2.2] 40)).grown hgr fun r hr _ => hr
          have HBN := Lib.hid (kp_below HBT.out hk10 fun y e => (hlt' y e).1)
          have e1 : (y.moved.take (j + 1)).map (·.2.2) = (y.moved.take j).map (·.2.2) ++ [v.2.2] := by rw [HTK.out, List.map_append]; rfl
          have HREL : Hid (w10.ownsRow wa.heap.size 40 3 (.slice (some ⟨vg, 0, none⟩) (j + 1) vcap) (j + 1) (flt msC ((y.moved.take (j + 1)).map (·.2.2)))) := Lib.hid (by rw [e1, flt_append, flt_one, List.map_take]; exact hown10)
          clear hown10 hgr hat hlt' hk10 e1 HOT HNEW HWT HST HBT HOB a0 a1 a2 a3 a4
          go_wp2_with fail
          try rw [← HAD.out]
          first | go_roundw | refine ⟨?rel, ?measure⟩
          case rel => exact ⟨j + 1, by omega, by go_num, HBN.out, HREL.out⟩
          case measure => simp [intOf]; omega
        · obtain rfl : k = j := by omega
          have htk : y.moved.take k = y.moved := List.take_of_length_le (by rw [HYL.out]; omega)
          rw [htk] at hob
          obtain ⟨wb, hwb⟩ : ∃ wb, wb = wr := ⟨_, rfl⟩
          rw [← hwb] at hob hB hbs2 ⊢
          have hby := (hB.block _ (lt_of_heap HBYA.out)).trans HBYA.out
          have hbb := HBA.out.trans (hB.mono HBA.out.size)
          have y0 : wb.cell? ⟨w5.heap.size + 1, 0, none⟩ = some (.slice Y1 b yc1) := (Lib.cell_of_heap hby _).trans rfl
          have y1 : wb.cell? ⟨w5.heap.size + 1, 1, none⟩ = some (.slice Y2 a yc2) := (Lib.cell_of_heap hby _).trans rfl
          have y2 : wb.cell? ⟨w5.heap.size + 1, 2, none⟩ = some (.slice Y3 k yc3) := (Lib.cell_of_heap hby _).trans rfl
          have HAW : Hid (Calls Try.prog 18 #[.slice NA p nc, .agg #[.slice Y1 b yc1, .slice Y2 a yc2, .slice Y3 k yc3]] wb (ApRes (some (srtM old)) wb)) := Lib.hid (by
            have hb3 : Below w3.heap.size w3 wb := HB5.out.trans (hbb.mono HB5.out.size)
            exact HAP.out wb _ hb3 (HDV.out wb hbb) (by
              obtain ⟨e1, e2, e3, _⟩ := HMF.out
              obtain ⟨f1, f2, f3⟩ := HLN.out
              rw [← e1, ← e2, ← e3, ← f1, ← f2, ← f3]
              omega))
          have HOA2 := Lib.hid ((Kp.ofBelow (M := fun _ => False) hB).own HOA.out fun _ _ e => e)
          have HOB := Lib.hid hob
          have HBB := Lib.hid hbb
          have HGD := Lib.hid hgd
          clear hwb hby hbb hob hB htk hlt hjk hgd HAP HDV HOA HBA HY3 HBYA
          go_wp2_with fail
          refine HAW.out.mono ?_
          clear y0 y1 y2 HAW
          rintro e w20 hap
          obtain ⟨v20, l20, hl20, rfl, hown20, hb20⟩ | ⟨hno, _⟩ := hap
          rotate_left
          · cases hno
          obtain rfl : srtM old = l20 := Option.some.inj hl20
          rw [srtM_len, ← HN.out] at hown20
          obtain ⟨RA, rc, rfl, hrn⟩ := own_slice hown20
          obtain ⟨_, _, _, hpm⟩ := HMF.out
          have hla : (x.moved.map srcOf).length = k := by rw [List.length_map]; exact HLN.out.2.2.symm
          have hlb' : (y.moved.map (·.2.2)).length = k := by rw [List.length_map]; exact HYL.out
          have hb520 := HBB.out.trans (hb20.mono HBB.out.size)
          have hoa20 := (Kp.ofBelow (M := fun _ => False) hb20).own HOA2.out fun _ _ e => e
          have hob20 := (Kp.ofBelow (M := fun _ => False) hb20).own HOB.out fun _ _ e => e
          have hs20 := hb20.size
          have hsa := sorted_any (Lt w20.heap.size) (x.moved.map srcOf) GA gc w20 (by rw [hla]; omega) HGN.out (Row.ofOwn hoa20 fun _ _ _ h => h)
          rw [hla] at hsa
          have hsb := fun w21 (hb21 : Below w20.heap.size w20 w21) => sorted_any (Lt w21.heap.size) (y.moved.map (·.2.2)) GB gd w21 (by rw [hlb']; omega) HGD.out (Row.ofOwn ((Kp.ofBelow (M := fun _ => False) hb21).own hob20 fun _ _ e => e) fun _ _ _ h => h)
          rw [hlb', ← srtM_congr hpm] at hsb
          have HLS : Hid ((srtM (x.moved.map srcOf)).length = k) := Lib.hid (by rw [srtM_len, hla])
          have HSA := Lib.hid hsa
          have HSB := Lib.hid hsb
          have HR20 := Lib.hid hown20
          have HB20 := Lib.hid hb520
          have HRN := Lib.hid hrn
          clear hsa hsb hown20 hb520 hoa20 hob20 hla hlb' hpm hl20 hrn hb20 HOA2 HOB HGN HGD HMF HXN
          go_wp2_with fail
          refine HSA.out.mono ?_
          rintro e w21 ⟨v21, rfl, hown21, hb21⟩
          rw [HLS.out] at hown21
          obtain ⟨SA, sc, rfl, hsn⟩ := own_slice hown21
          have HSB2 := Lib.hid (HSB.out w21 hb21)
          have HO21 := Lib.hid hown21
          have HR21 := Lib.hid ((Kp.ofBelow (M := fun _ => False) hb21).own HR20.out fun _ _ e => e)
          have HB21 := Lib.hid (HB20.out.trans (hb21.mono HB20.out.size))
          have hs21 := hb21.size
          clear hown21 hb21 HSA HSB HR20 HB20
          go_wp2_with fail
          refine HSB2.out.mono ?_
          rintro e w22 ⟨v22, rfl, hown22, hb22⟩
          rw [HLS.out] at hown22
          obtain ⟨TA, tc, rfl, htn⟩ := own_slice hown22
          have hsl := sameList_any (srtM (x.moved.map srcOf)) (srtM (x.moved.map srcOf)) SA TA sc tc w22 (by rw [HLS.out]; omega) (Row.ofOwn ((Kp.ofBelow (M := fun _ => False) hb22).own HO21.out fun _ _ e => e) fun _ _ _ h => h) (Row.ofOwn hown22 fun _ _ _ h => h)
          rw [HLS.out] at hsl
          have HSL := Lib.hid hsl
          have HR22 := Lib.hid ((Kp.ofBelow (M := fun _ => False) hb22).own HR21.out fun _ _ e => e)
          have HB22 := Lib.hid (HB21.out.trans (hb22.mono HB21.out.size))
          have hs22 := hb22.size
          clear hown22 hb22 hsl HSB2 HR21 HB21 HO21
          go_wp2_with fail
          refine HSL.out.mono ?_
          rintro e w23 ⟨r, rfl, hr, hb23⟩
          obtain rfl : r = true := by simpa using hr
          have HR23 := Lib.hid ((Kp.ofBelow (M := fun _ => False) hb23).own HR22.out fun _ _ e => e)
          have HB23 := Lib.hid (HB22.out.trans (hb23.mono HB22.out.size))
          have HSO2 := Lib.hid (HSO.out w23 (HB5.out.trans (HB23.out.mono HB5.out.size)))
          have hs23 := hb23.size
          clear hr hb23 HSL HR22 HB22 HSO
          go_wp2_with fail
          refine HSO2.out.mono ?_
          rintro e w24 ⟨v24, rfl, hown24, hb24⟩
          rw [srtM_len, ← HN.out] at hown24
          obtain ⟨UA, uc, rfl, hun⟩ := own_slice hown24
          have hln : (srtM old).length = n := by rw [srtM_len, HN.out]
          have hsl := sameList_any (srtM old) (srtM old) RA UA rc uc w24 (by rw [hln]; omega) (Row.ofOwn ((Kp.ofBelow (M := fun _ => False) hb24).own HR23.out fun _ _ e => e) fun _ _ _ h => h) (Row.ofOwn hown24 fun _ _ _ h => h)
          rw [hln] at hsl
          have HSL := Lib.hid hsl
          have HB24 := Lib.hid (HB23.out.trans (hb24.mono HB23.out.size))
          have hs24 := hb24.size
          clear hown24 hb24 hsl hln HSO2 HR23 HB23
          go_wp2_with fail
          refine HSL.out.mono ?_
          rintro e w25 ⟨r, rfl, hr, hb25⟩
          obtain rfl : r = true := by simpa using hr
          have HB25 := Lib.hid (HB24.out.trans (hb25.mono HB24.out.size))
          have HAK := Lib.hid (awake_any w25)
          clear hr hb25 HSL HB24
          go_wp2_with fail
          refine HAK.out.mono ?_
          rintro e w26 ⟨rfl, hb26⟩
          have h35 := HB3.out.trans (HB5.out.mono HB3.out.size)
          have h325 := h35.trans (HB25.out.mono h35.size)
          have HEND := Lib.hid (h325.trans (hb26.mono h325.size))
          clear hb26 h35 h325 HAK
          go_wp2
          go_ret
          exact ⟨rfl, HEND.out⟩
theorem law_all (xs : List Int) (TA : Option Addr) (tc : Nat) (w : World) (hA : Row w (Lt w.heap.size) TA (xs.map (Value.int .i64))) (hf : ∀ x ∈ xs, -9223372036854775808 ≤ x ∧ x ≤ 9223372036854775807) :
    Calls Try.prog 6 #[.slice TA xs.length tc] w fun e w' => e = .returned (.bool true) ∧ Below w.heap.size w w' := by
  by_cases h : xs.length ≤ 400
  · exact turn_light xs TA tc w hA h hf
  · exact turn_heavy xs.length TA tc w h
end Go.Proofs.Ytlgdminpkkhejaa
