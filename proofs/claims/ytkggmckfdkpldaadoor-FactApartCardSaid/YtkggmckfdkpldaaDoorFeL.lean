/-
  The walk of recompilelaw10.FactApart.
  Conditions: 'Env'; what came in reads as numbers of 64 bits.
-/
import Derived.Test.YtkggmckfdkpldaaDoorFeN
import Derived.Test.YtkggmckfdkpldaaDoorFeW
import Derived.Test.YtkggmckfdkpldaaDoorFdF
import Derived.Test.YtkggmckfdkpldaaDoorFcY
namespace Go.Proofs.YtkggmckfdkpldaaDoor
open Go.RowKit

set_option maxHeartbeats 1600000 in
set_option maxRecDepth 100000 in
theorem rollc_any (n : Nat) (A : Option Addr) (c : Nat) (w : World) :
    Calls Tryd.prog 7 #[.slice A n c] w fun e w' => e = .returned (.pointer (some ⟨w.heap.size, 0, none⟩)) ∧ w'.heap[w.heap.size]? = some (.cells #[.slice A n c, .int .i64 ((0 : Nat) : Int)] 55 (0, 0)) ∧ Below w.heap.size w w' := by
  have HH := Lib.hid (alloc1 w (.cells #[.slice A n c, .int .i64 ((0 : Nat) : Int)] 55))
  have HB : Hid (Below w.heap.size w (w.alloc (.cells #[.slice A n c, .int .i64 ((0 : Nat) : Int)] 55))) := Lib.hid ((Below.refl _ _).alloc (Nat.le_refl _) _)
  go_enter Tryd.func7, Tryd.ntmps7
  go_wp2
  go_ret
  exact ⟨rfl, HH.out, HB.out⟩
theorem DiceOf.at_ {TA : Option Addr} {c : Nat} {w : World} {dd : Nat} {xs : List Int} (h : DiceOf TA c w dd xs) : DiceAt w dd xs := by
  obtain ⟨k, h1, h2, h3⟩ := h.blk
  exact ⟨⟨TA, c, k, h1, h2, h3⟩, h.few, h.fit⟩
/-- Dice whose numbers lie below other blocks, when one of those has turned. -/
theorem DiceOf.other {TA : Option Addr} {c : Nat} {w w' : World} {dd B : Nat} {xs : List Int} {M : Nat → Prop} (h : DiceOf TA c w dd xs) (hk : Kp M w w') (hd : ¬ M dd) (hB : B ≤ dd) (hM : ∀ y, M y → B ≤ y) (hr : Row w (Lt B) TA (xs.map (Value.int .i64))) (hBw : B ≤ w.heap.size) : DiceOf TA c w' dd xs := by
  obtain ⟨k, h1, h2, h3⟩ := h.blk
  refine ⟨⟨k, hk.heap h1 hd, h2, ?_⟩, h.few, h.fit⟩
  exact (hr.keep (hk.kept fun b hb => ⟨Nat.lt_of_lt_of_le hb hBw, fun e => by have := hM b e; unfold Lt at hb; omega⟩)).more fun b hb => Nat.lt_of_lt_of_le hb hB

theorem SgPs.shape {w : World} {S : Nat → Prop} {x : SgF} {p : SgP} (h : SgPs w S x p) : ∃ (P N A R : Option Addr × Nat × Nat) (n : List UInt8), p = ⟨.slice P.1 P.2.1 P.2.2, .slice N.1 N.2.1 N.2.2, .slice A.1 A.2.1 A.2.2, sv n, .slice R.1 R.2.1 R.2.2⟩ := by
  obtain ⟨pv, nv, av, u, rv⟩ := p
  obtain ⟨A1, c1, h1, _⟩ := h.params
  obtain ⟨A2, c2, h2, _⟩ := h.names
  obtain ⟨A3, c3, _, h3, _⟩ := h.args
  obtain ⟨n, a, h4, h5⟩ := h.result.shape
  simp only at h1 h2 h3 h4 h5
  exact ⟨(A1, _, c1), (A2, _, c2), (A3, _, c3), a, n, by rw [h1, h2, h3, h4, h5]⟩
theorem OpsV.shape {w : World} {S : Nat → Prop} {v : Value} {l : List OpF} (h : OpsV w S v l) : ∃ (a : Option Addr × Nat × Nat), v = .slice a.1 a.2.1 a.2.2 := by
  obtain ⟨A, c, vs, e, _⟩ := h
  exact ⟨(A, _, c), e⟩

/-- A code that may be written: its operations in memory, its size. -/
structure GoodC (w : World) (x : CdF) (lv : Value) : Prop where
  ops : OpsV w (Lt w.heap.size) lv x.ops
  fits : x.fits
  size : (cdS x).length ≤ 1000000000
  few : x.ops.length ≤ 1000000000000
  lists : ∀ o ∈ x.ops, o.list.length ≤ 1000000000000
theorem GoodC.below {w w' : World} {x : CdF} {lv : Value} (h : GoodC w x lv) (hb : Below w.heap.size w w') : GoodC w' x lv := ⟨h.ops.now hb, h.fits, h.size, h.few, h.lists⟩
theorem goodC_of {w : World} {x : CdF} {lv : Value} {S : Nat → Prop} (ho : OpsV w S lv x.ops) (hS : ∀ b, S b → b < w.heap.size) (hb : CdBig x) : GoodC w x lv :=
  ⟨ho.more hS, hb.fits, Nat.le_trans (cd_small hb) (by decide), by have := hb.few; omega, fun o ho => by have := (hb.ops o ho).few; omega⟩
set_option maxHeartbeats 3200000 in
set_option maxRecDepth 100000 in
theorem apart_any (ts us : List Int) (TA UA : Option Addr) (tc uc : Nat) (w : World) (he : Env w) (hts : Row w (Lt w.heap.size) TA (ts.map (Value.int .i64))) (htf : ∀ z ∈ ts, -9223372036854775808 ≤ z ∧ z ≤ 9223372036854775807) (hus : Row w (Lt w.heap.size) UA (us.map (Value.int .i64))) (huf : ∀ z ∈ us, -9223372036854775808 ≤ z ∧ z ≤ 9223372036854775807) :
    Calls Tryd.prog 3 #[.slice TA ts.length tc, .slice UA us.length uc] w fun e w' => e = .returned (.bool true) ∧ Below w.heap.size w w' := by
  obtain ⟨tn, htn⟩ : ∃ tn, tn = ts.length := ⟨_, rfl⟩
  obtain ⟨un, hun⟩ : ∃ un, un = us.length := ⟨_, rfl⟩
  rw [← htn, ← hun]
  have HAW := Lib.hid (awake_any w he)
  have HLT := Lib.hid (light_any tn TA tc w)
  have HLU := Lib.hid (light_any un UA uc w)
  have HTN := Lib.hid htn
  have HUN := Lib.hid hun
  have HE := Lib.hid he
  have HTS := Lib.hid hts
  have HTF := Lib.hid htf
  have HUS := Lib.hid hus
  have HUF := Lib.hid huf
  clear htn hun he hts htf hus huf
  by_cases h1 : tn ≤ 400
  · rw [decide_eq_true h1] at HLT
    by_cases h2 : un ≤ 400
    · rw [decide_eq_true h2] at HLU
      go_enter Tryd.func3, Tryd.ntmps3
      go_wp2_with fail
      refine HLT.out.mono ?_
      rintro e w1 ⟨rfl, rfl⟩
      go_wp2_with fail
      refine HLU.out.mono ?_
      rintro e w1 ⟨rfl, rfl⟩
      clear HLT HLU HAW
      go_wp2_with fail
      refine (rollc_any tn TA tc w).mono ?_
      rintro e w1 ⟨rfl, hh1, hb1⟩
      obtain ⟨dd, hdd⟩ : ∃ dd, dd = w.heap.size := ⟨_, rfl⟩
      obtain ⟨ee, hee⟩ : ∃ ee, ee = w1.heap.size := ⟨_, rfl⟩
      have hD1 : DiceOf TA tc w1 dd ts := ⟨⟨0, by rw [hdd, ← HTN.out]; exact hh1, Nat.zero_le _, by rw [hdd]; exact HTS.out.keep (kept_below hb1)⟩, by rw [← HTN.out]; exact h1, HTF.out⟩
      have hde : dd < ee := by rw [hee]; exact hD1.lt
      have hU1 : Row w1 (Lt dd) UA (us.map (Value.int .i64)) := by rw [hdd]; exact HUS.out.keep (kept_below hb1)
      rw [← hdd] at hb1 ⊢
      have HB1 := Lib.hid hb1
      have HD1 := Lib.hid hD1
      have HU1 := Lib.hid hU1
      have HDD := Lib.hid hdd
      have HEE := Lib.hid hee
      clear hh1 hb1 hD1 hU1 hdd hee
      go_wp2_with fail
      refine (rollc_any un UA uc w1).mono ?_
      rintro e w2 ⟨rfl, hh2, hb2⟩
      have hee := HEE.out
      rw [← hee] at hh2 hb2 ⊢
      have hU2 : Row w2 (Lt dd) UA (us.map (Value.int .i64)) := HU1.out.keep fun p hp => hb2.cell (Nat.lt_trans hp hde)
      have hE2 : DiceOf UA uc w2 ee us := ⟨⟨0, by rw [← HUN.out]; exact hh2, Nat.zero_le _, hU2.more fun b hb => Nat.lt_trans hb hde⟩, by rw [← HUN.out]; exact h2, HUF.out⟩
      have hD2 := HD1.out.below (by rw [← hee]; exact hb2)
      have HB2 : Hid (Below dd w w2) := Lib.hid (HB1.out.trans (hb2.mono (Nat.le_of_lt hde)))
      have HD2 := Lib.hid hD2
      have HE2 := Lib.hid hE2
      have HU2 := Lib.hid hU2
      clear hh2 hb2 hU2 hE2 hD2 HD1 HU1 HB1 hee
      go_wp2_with fail
      refine (signature_any dd ts w2 HD2.out).mono ?_
      rintro e w3 ⟨x, p, rfl, hx, hxo, hD3, hK3⟩
      have he2 := HE2.out.lt
      have hU3 : Row w3 (Lt dd) UA (us.map (Value.int .i64)) := HU2.out.keep (hK3.kept fun b hb => ⟨by unfold Lt at hb; omega, fun e => by unfold Lt at hb; omega⟩)
      have hE3 := HE2.out.other hK3 (by omega) (Nat.le_of_lt hde) (fun y e => Nat.le_of_eq e.symm) HU2.out (by omega)
      have HX3 := Lib.hid hx
      have HXO := Lib.hid hxo
      have HD3 := Lib.hid hD3
      have HE3 := Lib.hid hE3
      have HU3 := Lib.hid hU3
      have HK3 := Lib.hid hK3
      clear hx hxo hD3 hE3 hU3 hK3 HD2 HE2
      go_wp2_with fail
      refine (signature_any ee us w3 HE3.out).mono ?_
      rintro e w4 ⟨y, q, rfl, hy, hyo, hE4, hK4⟩
      have hD4 := HD3.out.keep hK4 (fun z e => by omega)
      have hU4 : Row w4 (Lt dd) UA (us.map (Value.int .i64)) := HU3.out.keep (hK4.kept fun b hb => ⟨by unfold Lt at hb; have := HE3.out.lt; omega, fun e => by unfold Lt at hb; omega⟩)
      have hx4 : SgPs w4 (Fr w2.heap.size w4.heap.size) x p := (HX3.out.keep (hK4.kept fun b hb => ⟨hb.2, fun e => by have := hb.1; omega⟩)).more fun b hb => ⟨hb.1, Nat.lt_of_lt_of_le hb.2 hK4.size⟩
      have hy4 : SgPs w4 (Fr w2.heap.size w4.heap.size) y q := hy.more fun b hb => ⟨Nat.le_trans HK3.out.size hb.1, hb.2⟩
      have hD4 : DiceOf TA tc w4 dd ts := hD4
      have hK24 : Kp (fun z => z = dd ∨ z = ee) w2 w4 := (HK3.out.more fun _ _ e => Or.inl e).trans (hK4.more fun _ _ e => Or.inr e) fun _ _ e => e
      have HK24 := Lib.hid hK24
      clear hK24
      have HX4 := Lib.hid hx4
      have HY4 := Lib.hid hy4
      have HYO := Lib.hid hyo
      have HD4 := Lib.hid hD4
      have HE4 := Lib.hid hE4
      have HU4 := Lib.hid hU4
      have HK4 := Lib.hid hK4
      clear hx4 hy hy4 hyo hD4 hE4 hU4 hK4 HX3 HD3 HE3 HU3
      obtain ⟨pP, pN, pA, pR, pn, rfl⟩ := HX4.out.shape
      obtain ⟨qP, qN, qA, qR, qn, rfl⟩ := HY4.out.shape
      obtain ⟨w5, hw5⟩ : ∃ w5, w5 = (w4.alloc (.cells #[iv x.kind, .slice pP.1 pP.2.1 pP.2.2, .slice pN.1 pN.2.1 pN.2.2, .slice pA.1 pA.2.1 pA.2.2, sv pn, .slice pR.1 pR.2.1 pR.2.2, sv x.trt] 33)).alloc (.cells #[iv y.kind, .slice qP.1 qP.2.1 qP.2.2, .slice qN.1 qN.2.1 qN.2.2, .slice qA.1 qA.2.1 qA.2.2, sv qn, .slice qR.1 qR.2.1 qR.2.2, sv y.trt] 33) := ⟨_, rfl⟩
      have hb5 : Below w4.heap.size w4 w5 := by rw [hw5]; exact ((Below.refl _ _).alloc (Nat.le_refl _) _).alloc (by simp) _
      have hh5 := alloc2 w4 (.cells #[iv x.kind, .slice pP.1 pP.2.1 pP.2.2, .slice pN.1 pN.2.1 pN.2.2, .slice pA.1 pA.2.1 pA.2.2, sv pn, .slice pR.1 pR.2.1 pR.2.2, sv x.trt] 33) (.cells #[iv y.kind, .slice qP.1 qP.2.1 qP.2.2, .slice qN.1 qN.2.1 qN.2.2, .slice qA.1 qA.2.1 qA.2.2, sv qn, .slice qR.1 qR.2.1 qR.2.2, sv y.trt] 33)
      rw [← hw5] at hh5
      have HH5 := Lib.hid hh5
      have HB5 := Lib.hid hb5
      clear hh5 hb5
      go_wp2_with fail
      rw [← hw5]
      clear hw5
      refine (madeCode_any 1 dd ts w5 (by decide) (HD4.out.below HB5.out).at_).mono ?_
      rintro e w6 ⟨c, cv, rfl, hoc, hco, hD6, hK6⟩
      obtain ⟨cv, rfl⟩ := hoc.shape
      have hd4 := HD4.out.lt
      have he4 := HE4.out.lt
      have hk46 : Kp (fun z => z = dd) w4 w6 := (Kp.ofBelow HB5.out).trans hK6 fun _ _ e => e
      have hE6 := HE4.out.other hk46 (by omega) (Nat.le_of_lt hde) (fun z e => Nat.le_of_eq e.symm) HU4.out (by omega)
      have HOC := Lib.hid hoc
      have HCO := Lib.hid hco
      have HE6 := Lib.hid hE6
      have HK6 := Lib.hid hK6
      clear hoc hco hD6 hK6 hk46 hE6 HD4 HE4 HU4
      go_wp2_with fail
      refine (madeCode_any 1 ee us w6 (by decide) HE6.out.at_).mono ?_
      rintro e w7 ⟨d, dv, rfl, hod, hdo, hD7, hK7⟩
      obtain ⟨dv, rfl⟩ := hod.shape
      obtain ⟨w8, hw8⟩ : ∃ w8, w8 = (w7.alloc (.cells #[iv c.params, iv c.regs, .slice cv.1 cv.2.1 cv.2.2] 37)).alloc (.cells #[iv d.params, iv d.regs, .slice dv.1 dv.2.1 dv.2.2] 37) := ⟨_, rfl⟩
      have hb8 : Below w7.heap.size w7 w8 := by rw [hw8]; exact ((Below.refl _ _).alloc (Nat.le_refl _) _).alloc (by simp) _
      have hh8 := alloc2 w7 (.cells #[iv c.params, iv c.regs, .slice cv.1 cv.2.1 cv.2.2] 37) (.cells #[iv d.params, iv d.regs, .slice dv.1 dv.2.1 dv.2.2] 37)
      rw [← hw8] at hh8
      have hs24 := HK24.out.size
      have hs45 := HB5.out.size
      have hs56 := HK6.out.size
      have hs67 := hK7.size
      have hs78 := hb8.size
      have hk57 : Kp (fun z => z = dd ∨ z = ee) w5 w7 := (HK6.out.more fun _ _ e => Or.inl e).trans (hK7.more fun _ _ e => Or.inr e) fun _ _ e => e
      have hk58 : Kp (fun z => z = dd ∨ z = ee) w5 w8 := hk57.below hb8
      have hk48 : Kp (fun z => z = dd ∨ z = ee) w4 w8 := (Kp.ofBelow HB5.out).trans hk58 fun _ _ e => e
      have hk28 : Kp (fun z => z = dd ∨ z = ee) w2 w8 := HK24.out.trans hk48 fun _ _ e => e
      have hx8 : SgPs w8 (Lt w8.heap.size) x ⟨.slice pP.1 pP.2.1 pP.2.2, .slice pN.1 pN.2.1 pN.2.2, .slice pA.1 pA.2.1 pA.2.2, sv pn, .slice pR.1 pR.2.1 pR.2.2⟩ := (HX4.out.keep (hk48.kept fun b hb => ⟨hb.2, fun e => by have := hb.1; omega⟩)).more fun b hb => Nat.lt_of_lt_of_le hb.2 hk48.size
      have hy8 : SgPs w8 (Lt w8.heap.size) y ⟨.slice qP.1 qP.2.1 qP.2.2, .slice qN.1 qN.2.1 qN.2.2, .slice qA.1 qA.2.1 qA.2.2, sv qn, .slice qR.1 qR.2.1 qR.2.2⟩ := (HY4.out.keep (hk48.kept fun b hb => ⟨hb.2, fun e => by have := hb.1; omega⟩)).more fun b hb => Nat.lt_of_lt_of_le hb.2 hk48.size
      have hk68 : Kp (fun z => z = dd ∨ z = ee) w6 w8 := (hK7.more fun _ _ e => Or.inr e).below hb8
      have hc8 : GoodC w8 c (.slice cv.1 cv.2.1 cv.2.2) := goodC_of (HOC.out.keep (hk68.kept fun b hb => ⟨hb.2, fun e => by have := hb.1; omega⟩)) (fun b hb => Nat.lt_of_lt_of_le hb.2 hk68.size) HCO.out.big
      have hd8 : GoodC w8 d (.slice dv.1 dv.2.1 dv.2.2) := goodC_of (hod.keep ((Kp.ofBelow hb8 : Kp (fun _ => False) w7 w8).kept fun b hb => ⟨hb.2, fun e => e⟩)) (fun b hb => Nat.lt_of_lt_of_le hb.2 hb8.size) hdo.big
      have hB8 : Below w.heap.size w w8 := by
        rw [← HDD.out]
        exact HB2.out.trans ⟨hk28.os, hk28.tape, hk28.output, hk28.size, fun z hz => hk28.block z (by omega) (by omega)⟩
      have hH1 := hk58.heap HH5.out.1 (by omega)
      have hH2 := hk58.heap HH5.out.2 (by omega)
      have hS0 : AtCells [(⟨w4.heap.size, 0, none⟩, iv x.kind), (⟨w4.heap.size, 1, none⟩, .slice pP.1 pP.2.1 pP.2.2), (⟨w4.heap.size, 2, none⟩, .slice pN.1 pN.2.1 pN.2.2), (⟨w4.heap.size, 3, none⟩, .slice pA.1 pA.2.1 pA.2.2), (⟨w4.heap.size, 4, none⟩, sv pn), (⟨w4.heap.size, 5, none⟩, .slice pR.1 pR.2.1 pR.2.2), (⟨w4.heap.size, 6, none⟩, sv x.trt), (⟨w4.heap.size + 1, 0, none⟩, iv y.kind), (⟨w4.heap.size + 1, 1, none⟩, .slice qP.1 qP.2.1 qP.2.2), (⟨w4.heap.size + 1, 2, none⟩, .slice qN.1 qN.2.1 qN.2.2), (⟨w4.heap.size + 1, 3, none⟩, .slice qA.1 qA.2.1 qA.2.2), (⟨w4.heap.size + 1, 4, none⟩, sv qn), (⟨w4.heap.size + 1, 5, none⟩, .slice qR.1 qR.2.1 qR.2.2), (⟨w4.heap.size + 1, 6, none⟩, sv y.trt), (⟨w7.heap.size, 0, none⟩, iv c.params), (⟨w7.heap.size, 1, none⟩, iv c.regs), (⟨w7.heap.size, 2, none⟩, .slice cv.1 cv.2.1 cv.2.2), (⟨w7.heap.size + 1, 0, none⟩, iv d.params), (⟨w7.heap.size + 1, 1, none⟩, iv d.regs), (⟨w7.heap.size + 1, 2, none⟩, .slice dv.1 dv.2.1 dv.2.2)] w8 := by
        refine ⟨?_, ?_, ?_, ?_, ?_, ?_, ?_, ?_, ?_, ?_, ?_, ?_, ?_, ?_, ?_, ?_, ?_, ?_, ?_, ?_, trivial⟩ <;> first | exact (Lib.cell_of_heap hH1 _).trans rfl | exact (Lib.cell_of_heap hH2 _).trans rfl | exact (Lib.cell_of_heap hh8.1 _).trans rfl | exact (Lib.cell_of_heap hh8.2 _).trans rfl
      have HSW := Lib.hid hS0
      have HX := Lib.hid hx8
      have HY := Lib.hid hy8
      have HC := Lib.hid hc8
      have HD := Lib.hid hd8
      have HB8 := Lib.hid hB8
      have HDO := Lib.hid hdo
      clear hS0 hx8 hy8 hc8 hd8 hB8 hH1 hH2 hh8 hb8 hk57 hk58 hk48 hk28 hk68 hod hdo hD7 hK7 HX4 HY4 HH5 HOC HE6 HK6 HK24 HB2 HB5
      go_wp2_with fail
      rw [← hw8]
      clear hw8
      obtain ⟨s1, hs1⟩ : ∃ s, s = sgS x := ⟨_, rfl⟩
      obtain ⟨s2, hs2⟩ : ∃ s, s = sgS y := ⟨_, rfl⟩
      obtain ⟨s3, hs3⟩ : ∃ s, s = cdS c := ⟨_, rfl⟩
      obtain ⟨s4, hs4⟩ : ∃ s, s = cdS d := ⟨_, rfl⟩
      have hq1 : ∃ r : Bool, (r = true ↔ x = y) ∧ ((bs s1).toList == (bs s2).toList) = r := by
        refine ⟨_, ?_, rfl⟩
        rw [toListBs, toListBs, hs1, hs2, beq_iff_eq]
        exact ⟨fun h => sg_inj HXO.out.fits HYO.out.fits h, fun h => by rw [h]⟩
      have hq2 : ∃ r : Bool, (r = true ↔ c = d) ∧ ((bs s3).toList == (bs s4).toList) = r := by
        refine ⟨_, ?_, rfl⟩
        rw [toListBs, toListBs, hs3, hs4, beq_iff_eq]
        exact ⟨fun h => cd_inj HCO.out.big.fits HDO.out.big.fits h, fun h => by rw [h]⟩
      obtain ⟨r1, hr1, he1⟩ := hq1
      obtain ⟨r2, hr2, he2⟩ := hq2
      have HR1 := Lib.hid hr1
      have HR2 := Lib.hid hr2
      have HQ1 := Lib.hid hs1
      have HQ2 := Lib.hid hs2
      have HQ3 := Lib.hid hs3
      have HQ4 := Lib.hid hs4
      clear hr1 hr2 hs1 hs2 hs3 hs4
      refine wp_region_mix (AtCells [(⟨w4.heap.size, 0, none⟩, iv x.kind), (⟨w4.heap.size, 1, none⟩, .slice pP.1 pP.2.1 pP.2.2), (⟨w4.heap.size, 2, none⟩, .slice pN.1 pN.2.1 pN.2.2), (⟨w4.heap.size, 3, none⟩, .slice pA.1 pA.2.1 pA.2.2), (⟨w4.heap.size, 4, none⟩, sv pn), (⟨w4.heap.size, 5, none⟩, .slice pR.1 pR.2.1 pR.2.2), (⟨w4.heap.size, 6, none⟩, sv x.trt), (⟨w4.heap.size + 1, 0, none⟩, iv y.kind), (⟨w4.heap.size + 1, 1, none⟩, .slice qP.1 qP.2.1 qP.2.2), (⟨w4.heap.size + 1, 2, none⟩, .slice qN.1 qN.2.1 qN.2.2), (⟨w4.heap.size + 1, 3, none⟩, .slice qA.1 qA.2.1 qA.2.2), (⟨w4.heap.size + 1, 4, none⟩, sv qn), (⟨w4.heap.size + 1, 5, none⟩, .slice qR.1 qR.2.1 qR.2.2), (⟨w4.heap.size + 1, 6, none⟩, sv y.trt), (⟨w7.heap.size, 0, none⟩, iv c.params), (⟨w7.heap.size, 1, none⟩, iv c.regs), (⟨w7.heap.size, 2, none⟩, .slice cv.1 cv.2.1 cv.2.2), (⟨w7.heap.size + 1, 0, none⟩, iv d.params), (⟨w7.heap.size + 1, 1, none⟩, iv d.regs), (⟨w7.heap.size + 1, 2, none⟩, .slice dv.1 dv.2.1 dv.2.2)]) [(false, 0), (true, 1), (true, 2), (true, 4), (true, 7), (true, 8), (false, 3), (false, 5), (true, 6), (false, 9), (true, 10), (true, 11), (true, 12), (true, 13), (true, 15), (true, 18), (true, 19), (false, 14), (false, 16), (true, 17), (false, 20), (true, 21), (true, 22)] [23] (by kernel_rfl) (by kernel_rfl) (HSW.out.below (Below.refl _ w8).drew) ?ha
      case ha =>
      simp only [mixAt, List.filterMap_cons, List.filterMap_nil, List.getElem?_toArray, List.getElem?_cons_succ, List.getElem?_cons_zero, Option.map_some]
      refine wpMix_keep rfl ?_
      go_wp2_with fail
      refine (awake_any w8.drew ((HE.out.below HB8.out).below (Below.refl _ w8).drew)).mono ?_
      rintro e u1 ⟨rfl, hb⟩
      have hb : Below w8.heap.size w8 u1 := ((Below.refl _ w8).drew).trans hb
      refine ⟨HSW.out.below hb, ?_⟩
      have HB1 := Lib.hid hb
      clear hb
      refine wpMix_load ?vaa0 rfl (fun w' hS => ?yaa0) ?kaa0
      case yaa0 =>
        obtain ⟨k0, k1, k2, k3, k4, k5, k6, k7, k8, k9, k10, k11, k12, k13, k14, k15, k16, k17, k18, k19, _⟩ := hS
        go_simp
        try rfl
      case kaa0 =>
      go_simp
      refine wpMix_load ?vaa1 rfl (fun w' hS => ?yaa1) ?kaa1
      case yaa1 =>
        obtain ⟨k0, k1, k2, k3, k4, k5, k6, k7, k8, k9, k10, k11, k12, k13, k14, k15, k16, k17, k18, k19, _⟩ := hS
        go_simp
        try rfl
      case kaa1 =>
      go_simp
      refine wpMix_load ?vaa2 rfl (fun w' hS => ?yaa2) ?kaa2
      case yaa2 =>
        obtain ⟨k0, k1, k2, k3, k4, k5, k6, k7, k8, k9, k10, k11, k12, k13, k14, k15, k16, k17, k18, k19, _⟩ := hS
        go_simp
        try rfl
      case kaa2 =>
      go_simp
      refine wpMix_load ?vaa3 rfl (fun w' hS => ?yaa3) ?kaa3
      case yaa3 =>
        obtain ⟨k0, k1, k2, k3, k4, k5, k6, k7, k8, k9, k10, k11, k12, k13, k14, k15, k16, k17, k18, k19, _⟩ := hS
        go_simp
        try rfl
      case kaa3 =>
      go_simp
      refine wpMix_load ?vaa4 rfl (fun w' hS => ?yaa4) ?kaa4
      case yaa4 =>
        obtain ⟨k0, k1, k2, k3, k4, k5, k6, k7, k8, k9, k10, k11, k12, k13, k14, k15, k16, k17, k18, k19, _⟩ := hS
        go_simp
        try rfl
      case kaa4 =>
      go_simp
      refine wpMix_keep rfl ?_
      go_wp2_with fail
      refine (fsig_any x ⟨.slice pP.1 pP.2.1 pP.2.2, .slice pN.1 pN.2.1 pN.2.2, .slice pA.1 pA.2.1 pA.2.2, sv pn, .slice pR.1 pR.2.1 pR.2.2⟩ u1 ((HE.out.below HB8.out).below HB1.out) (HX.out.now HB1.out) HXO.out.fits.kind (Nat.le_trans HXO.out.small (by decide))).mono ?_
      rw [← HQ1.out]
      rintro e u2 ⟨rfl, hb⟩
      have HB2 := Lib.hid (HB1.out.trans (hb.mono HB1.out.size))
      refine ⟨HSW.out.below HB2.out, ?_⟩
      clear hb HB1
      refine wpMix_keep rfl ?_
      go_wp2_with fail
      refine (fsig_any y ⟨.slice qP.1 qP.2.1 qP.2.2, .slice qN.1 qN.2.1 qN.2.2, .slice qA.1 qA.2.1 qA.2.2, sv qn, .slice qR.1 qR.2.1 qR.2.2⟩ u2 ((HE.out.below HB8.out).below HB2.out) (HY.out.now HB2.out) HYO.out.fits.kind (Nat.le_trans HYO.out.small (by decide))).mono ?_
      rw [← HQ2.out]
      rintro e u3 ⟨rfl, hb⟩
      have HB3 := Lib.hid (HB2.out.trans (hb.mono HB2.out.size))
      refine ⟨HSW.out.below HB3.out, ?_⟩
      clear hb HB2
      refine wpMix_load (.bool r1) rfl (fun w' hS => ?yb0) ?kb0
      case yb0 =>
        clear hS
        go_simp
        try rfl
      case kb0 =>
      go_simp
      refine wpMix_keep rfl ?_
      go_wp2_with fail
      refine (sameSig_any x y ⟨.slice pP.1 pP.2.1 pP.2.2, .slice pN.1 pN.2.1 pN.2.2, .slice pA.1 pA.2.1 pA.2.2, sv pn, .slice pR.1 pR.2.1 pR.2.2⟩ ⟨.slice qP.1 qP.2.1 qP.2.2, .slice qN.1 qN.2.1 qN.2.2, .slice qA.1 qA.2.1 qA.2.2, sv qn, .slice qR.1 qR.2.1 qR.2.2⟩ u3 (HX.out.now HB3.out) (HY.out.now HB3.out) HXO.out.few HYO.out.few).mono ?_
      rintro e u4 ⟨r, rfl, hr, hb⟩
      obtain rfl : r = r1 := by
        have := HR1.out
        cases r <;> cases r1 <;> simp_all
      have HB4 := Lib.hid (HB3.out.trans (hb.mono HB3.out.size))
      refine ⟨HSW.out.below HB4.out, ?_⟩
      clear hb HB3 hr HR1 he1
      refine wpMix_load (.bool true) rfl (fun w' hS => ?yb1) ?kb1
      case yb1 =>
        clear hS
        go_simp
        try rfl
      case kb1 =>
      go_simp
      refine wpMix_load ?vcc0 rfl (fun w' hS => ?ycc0) ?kcc0
      case ycc0 =>
        obtain ⟨k0, k1, k2, k3, k4, k5, k6, k7, k8, k9, k10, k11, k12, k13, k14, k15, k16, k17, k18, k19, _⟩ := hS
        go_simp
        try rfl
      case kcc0 =>
      go_simp
      refine wpMix_load ?vcc1 rfl (fun w' hS => ?ycc1) ?kcc1
      case ycc1 =>
        obtain ⟨k0, k1, k2, k3, k4, k5, k6, k7, k8, k9, k10, k11, k12, k13, k14, k15, k16, k17, k18, k19, _⟩ := hS
        go_simp
        try rfl
      case kcc1 =>
      go_simp
      refine wpMix_load ?vcc2 rfl (fun w' hS => ?ycc2) ?kcc2
      case ycc2 =>
        obtain ⟨k0, k1, k2, k3, k4, k5, k6, k7, k8, k9, k10, k11, k12, k13, k14, k15, k16, k17, k18, k19, _⟩ := hS
        go_simp
        try rfl
      case kcc2 =>
      go_simp
      refine wpMix_load ?vcc3 rfl (fun w' hS => ?ycc3) ?kcc3
      case ycc3 =>
        obtain ⟨k0, k1, k2, k3, k4, k5, k6, k7, k8, k9, k10, k11, k12, k13, k14, k15, k16, k17, k18, k19, _⟩ := hS
        go_simp
        try rfl
      case kcc3 =>
      go_simp
      refine wpMix_load ?vcc4 rfl (fun w' hS => ?ycc4) ?kcc4
      case ycc4 =>
        obtain ⟨k0, k1, k2, k3, k4, k5, k6, k7, k8, k9, k10, k11, k12, k13, k14, k15, k16, k17, k18, k19, _⟩ := hS
        go_simp
        try rfl
      case kcc4 =>
      go_simp
      refine wpMix_load ?vcc5 rfl (fun w' hS => ?ycc5) ?kcc5
      case ycc5 =>
        obtain ⟨k0, k1, k2, k3, k4, k5, k6, k7, k8, k9, k10, k11, k12, k13, k14, k15, k16, k17, k18, k19, _⟩ := hS
        go_simp
        try rfl
      case kcc5 =>
      go_simp
      refine wpMix_keep rfl ?_
      go_wp2_with fail
      refine (code_any c _ u4 ((HE.out.below HB8.out).below HB4.out) ⟨_, rfl, (HC.out.below HB4.out).ops⟩ HC.out.fits HC.out.size).mono ?_
      rw [← HQ3.out]
      rintro e u5 ⟨rfl, hb⟩
      have HB5 := Lib.hid (HB4.out.trans (hb.mono HB4.out.size))
      refine ⟨HSW.out.below HB5.out, ?_⟩
      clear hb HB4
      refine wpMix_keep rfl ?_
      go_wp2_with fail
      refine (code_any d _ u5 ((HE.out.below HB8.out).below HB5.out) ⟨_, rfl, (HD.out.below HB5.out).ops⟩ HD.out.fits HD.out.size).mono ?_
      rw [← HQ4.out]
      rintro e u6 ⟨rfl, hb⟩
      have HB6 := Lib.hid (HB5.out.trans (hb.mono HB5.out.size))
      refine ⟨HSW.out.below HB6.out, ?_⟩
      clear hb HB5
      refine wpMix_load (.bool r2) rfl (fun w' hS => ?yb2) ?kb2
      case yb2 =>
        clear hS
        go_simp
        try rfl
      case kb2 =>
      go_simp
      refine wpMix_keep rfl ?_
      go_wp2_with fail
      refine (sameCode_any c d _ _ u6 ⟨_, rfl, (HC.out.below HB6.out).ops⟩ ⟨_, rfl, (HD.out.below HB6.out).ops⟩ HC.out.few HC.out.lists).mono ?_
      rintro e u7 ⟨r, rfl, hr, hb⟩
      obtain rfl : r = r2 := by
        have := HR2.out
        cases r <;> cases r2 <;> simp_all
      have HB7 := Lib.hid (HB6.out.trans (hb.mono HB6.out.size))
      refine ⟨HSW.out.below HB7.out, ?_⟩
      clear hb HB6 hr HR2 he2
      refine wpMix_load (.bool true) rfl (fun w' hS => ?yb3) ?kb3
      case yb3 =>
        clear hS
        go_simp
        try rfl
      case kb3 =>
      go_simp
      refine wpMix_load ?vdd0 rfl (fun w' hS => ?ydd0) ?kdd0
      case ydd0 =>
        obtain ⟨k0, k1, k2, k3, k4, k5, k6, k7, k8, k9, k10, k11, k12, k13, k14, k15, k16, k17, k18, k19, _⟩ := hS
        go_simp
        try rfl
      case kdd0 =>
      go_simp
      refine wpMix_nil ?_
      simp only [opsAt, List.filterMap_cons, List.filterMap_nil, List.getElem?_toArray, List.getElem?_cons_succ, List.getElem?_cons_zero]
      have HRES : Hid (Below w.heap.size w u7) := Lib.hid (HB8.out.trans (HB7.out.mono HB8.out.size))
      clear HB7 HB8 HSW HX HY HC HD
      go_wp2
      refine NoPanic.normal ?_
      go_wp2
      go_ret
      exact ⟨rfl, HRES.out⟩
    · rw [decide_eq_false h2] at HLU
      go_enter Tryd.func3, Tryd.ntmps3
      go_wp2_with fail
      refine HLT.out.mono ?_
      rintro e w1 ⟨rfl, rfl⟩
      go_wp2_with fail
      refine HLU.out.mono ?_
      rintro e w1 ⟨rfl, rfl⟩
      clear HLT HLU
      go_wp2_with fail
      refine HAW.out.mono ?_
      rintro e w2 ⟨rfl, hb⟩
      have HR := Lib.hid hb
      clear hb
      go_wp2
      go_ret
      exact ⟨rfl, HR.out⟩
  · rw [decide_eq_false h1] at HLT
    go_enter Tryd.func3, Tryd.ntmps3
    go_wp2_with fail
    refine HLT.out.mono ?_
    rintro e w1 ⟨rfl, rfl⟩
    clear HLT HLU
    go_wp2_with fail
    refine HAW.out.mono ?_
    rintro e w2 ⟨rfl, hb⟩
    have HR := Lib.hid hb
    clear hb
    go_wp2
    go_ret
    exact ⟨rfl, HR.out⟩
end Go.Proofs.YtkggmckfdkpldaaDoor
