/-
  The walk of recompilelaw09.TypesAnyOrder (printed by genAny.py).
  Conditions: the numbers are ints.
-/
import Derived.Test.YtndhglcdkegigaaDoorAnyR
import Derived.Test.YtndhglcdkegigaaDoorAwk
namespace Go.Proofs.YtndhglcdkegigaaDoor
open Go.RowKit

set_option maxHeartbeats 16000000 in
set_option maxRecDepth 100000 in
theorem any_light (xs : List Int) (TA : Option Addr) (tc : Nat) (turn : Int) (w : World) (hA : Row w (Lt w.heap.size) TA (xs.map (Value.int .i64))) (hn : xs.length ≤ 400) (hf : ∀ x ∈ xs, -9223372036854775808 ≤ x ∧ x ≤ 9223372036854775807) (ht0 : -9223372036854775808 ≤ turn) (ht1 : turn ≤ 9223372036854775807) :
    Calls Tryd.prog 5 #[.slice TA xs.length tc, .int .i64 turn] w fun e w' => e = .returned (.bool true) ∧ Below w.heap.size w w' := by
  have hli := light_any xs.length TA tc w
  rw [show decide (xs.length ≤ 400) = true by simpa using hn] at hli
  have hro := roll_any xs TA tc w hA hn hf
  have HLI := Lib.hid hli
  have HRO := Lib.hid hro
  clear hli hro hA hf
  generalize xs.length = nx at *
  go_enter Tryd.func5, Tryd.ntmps5
  go_wp2_with fail
  refine HLI.out.mono ?_
  rintro e w0 ⟨rfl, rfl⟩
  go_wp2_with fail
  refine HRO.out.mono ?_
  rintro e w1 ⟨rfl, hD1, hb1⟩
  have EQS := Lib.hid (equations_any w.heap.size xs w1 hD1)
  have hdl := hD1.lt
  have HB1 := Lib.hid hb1
  clear hb1 HLI HRO hD1
  go_wp2_with fail
  refine EQS.out.mono ?_
  rintro e w2 ⟨E, lv, vs, rfl, hE, hn7, hQ, hT⟩
  obtain ⟨lo, hlo⟩ : ∃ lo, lo = w1.heap.size := ⟨_, rfl⟩
  rw [← hlo] at hE hdl
  obtain ⟨LA, lc, rfl, hlc1, hlc2, hLA⟩ := hE.shape
  obtain ⟨n, hnE⟩ : ∃ n, n = E.length := ⟨_, rfl⟩
  rw [← hnE] at hE hn7 hlc1 hLA ⊢
  have HNE := Lib.hid hnE
  have HB2 : Hid (Below w.heap.size w w2) := Lib.hid (by
    have hb1 := HB1.out
    have hk := hT.2
    exact hb1.trans ⟨hk.os, hk.tape, hk.output, hk.size, fun y hy => hk.block y (by have := hb1.size; omega) (by omega)⟩)
  have HE := Lib.hid hE
  have HQ := Lib.hid hQ
  have HLA := Lib.hid hLA
  have hlo2 : lo ≤ w2.heap.size := by rw [hlo]; exact hT.2.size
  clear hnE hE hQ hT hLA hlo EQS
  go_wp2_with fail
  go_loopw [7] (fun i wr => ∃ (k : Nat) (E' : List Eqn) (vs' : List EV), k ≤ n ∧ i = .int .i64 (k : Int) ∧ EqAt lo k E' (.slice LA n lc) vs' wr ∧ E'.length = n ∧ (∀ (j : Nat) (x : Eqn), E'[j]? = some x → (j < k → CEq x) ∧ (k ≤ j → DEq x)) ∧ Below w.heap.size w wr) (fun i _ => n - (intOf i).toNat)
  case atStart => exact ⟨0, E, vs, Nat.zero_le _, rfl, HE.out, HNE.out.symm, (fun j x hx => ⟨fun h => absurd h (Nat.not_lt_zero _), fun _ => HQ.out x (List.mem_of_getElem? hx)⟩), HB2.out⟩
  case round =>
    obtain ⟨k, E', vs', hk, rfl, hE', hl', hq', hb⟩ := hrel
    by_cases hlt : k < n
    · obtain ⟨g, rfl⟩ := HLA.out (by omega)
      have hki : k < E'.length := by omega
      have hkv : k < vs'.length := by rw [hE'.len]; exact hki
      have hx := List.getElem?_eq_getElem hki
      have hp := List.getElem?_eq_getElem hkv
      have hEq := hE'.each k _ _ hx hp
      have hdq := (hq' k _ hx).2 (Nat.le_refl _)
      obtain ⟨r0, r1, r2, r3⟩ := flat4_at _ _ _ hp
      generalize hEx : E'[k] = x at *
      generalize hEp : vs'[k] = p at *
      obtain ⟨n1, n2, a1, a2, rfl⟩ := hEq.shape
      dsimp only at r0 r1 r2 r3
      have hown := hE'.own
      rw [hl'] at hown
      have hfl := flat4_length vs'
      have hvl := hE'.len
      have gl := (hown.lt g rfl).2
      have glo := (hown.lt g rfl).1
      have hcl : ∀ j u, (flat4 vs')[j]? = some u → wr.cell? ⟨g, j, none⟩ = some u := fun j u h => (hown.cellAt j (by have := (List.getElem?_eq_some_iff.1 h).1; omega)).trans h
      obtain ⟨ad, had⟩ : ∃ ad : Addr, ad = ⟨g, 0, none⟩ := ⟨_, rfl⟩
      have hadd : ad.add (k * 4) = ⟨g, k * 4, none⟩ := by
        rw [had]
        unfold Addr.add
        split <;> simp_all
      rw [← had]
      have e0 : wr.cell? (ad.add (k * 4)) = some (sv n1) := by rw [hadd]; exact hcl _ _ r0
      have e1 : wr.cell? ⟨(ad.add (k * 4)).block, (ad.add (k * 4)).off + 1, none⟩ = some (.slice a1.1 a1.2.1 a1.2.2) := by rw [hadd]; exact hcl _ _ r1
      have e2 : wr.cell? ⟨(ad.add (k * 4)).block, (ad.add (k * 4)).off + 2, none⟩ = some (sv n2) := by rw [hadd]; exact hcl _ _ r2
      have e3 : wr.cell? ⟨(ad.add (k * 4)).block, (ad.add (k * 4)).off + 2 + 1, none⟩ = some (.slice a2.1 a2.2.1 a2.2.2) := by rw [hadd]; exact hcl _ _ r3

      have hsb0 : (ad.add (k * 4)).block = g := by rw [hadd]

      have HSB0 := Lib.hid hsb0
      have HADD := Lib.hid hadd
      have HAD := Lib.hid had
      have CL1 := Lib.hid (clean_any x.1 _ _ wr.drew ((TyIs.keep (w' := wr.drew) hEq.1 fun _ _ => rfl).more fun _ h => h.2.1))
      have HEQ := Lib.hid hEq
      have HDQ := Lib.hid hdq
      have HE' := Lib.hid hE'
      have HL' := Lib.hid hl'
      have HQ' := Lib.hid hq'
      have HOWN := Lib.hid hown
      have hsz := hb.size
      have hik : (0 : Int) ≤ (k : Int) ∧ (k : Int) < (n : Int) := ⟨by omega, by omega⟩
      clear hx hp hEx hEp hEq hdq r0 r1 r2 r3 hE' hl' hq' hown hcl hadd had hsb0 hfl hvl hki hkv
      go_wp2_with fail
      refine wp_region_held' (fun w' => w'.cell? (ad.add (k * 4)) = some (sv n1) ∧ w'.cell? ⟨(ad.add (k * 4)).block, (ad.add (k * 4)).off + 1, none⟩ = some (.slice a1.1 a1.2.1 a1.2.2) ∧ w'.cell? ⟨(ad.add (k * 4)).block, (ad.add (k * 4)).off + 2, none⟩ = some (sv n2) ∧ w'.cell? ⟨(ad.add (k * 4)).block, (ad.add (k * 4)).off + 2 + 1, none⟩ = some (.slice a2.1 a2.2.1 a2.2.2)) [2, 3] [0, 1, 4, 5, 6, 7, 8, 10, 11, 12, 13, 14] [9, 15] [16, 17, 18, 19, 20, 21] (by kernel_rfl) (by kernel_rfl) ?sa ?ha
      case sa => exact ⟨e0, e1, e2, e3⟩
      case ha =>
        simp only [opsAt, List.filterMap_cons, List.filterMap_nil, List.getElem?_toArray, List.getElem?_cons_succ, List.getElem?_cons_zero]
        refine wpFloat_step ?vf0 rfl (fun w' => ?yf0) ?kf0
        case yf0 =>
          go_simp
          try rfl
        case kf0 =>
        go_simp
        refine wpFloat_step ?vf1 rfl (fun w' => ?yf1) ?kf1
        case yf1 =>
          go_simp
          try rfl
        case kf1 =>
        go_simp
        refine wpFloat_nil ?_
        refine wpLoad_step ?va0 rfl (fun w' hS => ?ya0) ?ka0
        case ya0 =>
          obtain ⟨h1, h2, h3, h4⟩ := hS
          go_simp
          try rfl
        case ka0 =>
        go_simp
        refine wpLoad_step ?va1 rfl (fun w' hS => ?ya1) ?ka1
        case ya1 =>
          obtain ⟨h1, h2, h3, h4⟩ := hS
          go_simp
          try rfl
        case ka1 =>
        go_simp
        refine wpLoad_step ?va2 rfl (fun w' hS => ?ya2) ?ka2
        case ya2 =>
          obtain ⟨h1, h2, h3, h4⟩ := hS
          go_simp
          try rfl
        case ka2 =>
        go_simp
        refine wpLoad_step ?va3 rfl (fun w' hS => ?ya3) ?ka3
        case ya3 =>
          obtain ⟨h1, h2, h3, h4⟩ := hS
          go_simp
          try rfl
        case ka3 =>
        go_simp
        refine wpLoad_step ?va4 rfl (fun w' hS => ?ya4) ?ka4
        case ya4 =>
          obtain ⟨h1, h2, h3, h4⟩ := hS
          go_simp
          try rfl
        case ka4 =>
        go_simp
        refine wpLoad_step ?va5 rfl (fun w' hS => ?ya5) ?ka5
        case ya5 =>
          obtain ⟨h1, h2, h3, h4⟩ := hS
          go_simp
          try rfl
        case ka5 =>
        go_simp
        refine wpLoad_step ?va6 rfl (fun w' hS => ?ya6) ?ka6
        case ya6 =>
          obtain ⟨h1, h2, h3, h4⟩ := hS
          go_simp
          try rfl
        case ka6 =>
        go_simp
        refine wpLoad_step ?va7 rfl (fun w' hS => ?ya7) ?ka7
        case ya7 =>
          obtain ⟨h1, h2, h3, h4⟩ := hS
          go_simp
          try rfl
        case ka7 =>
        go_simp
        refine wpLoad_step ?va8 rfl (fun w' hS => ?ya8) ?ka8
        case ya8 =>
          obtain ⟨h1, h2, h3, h4⟩ := hS
          go_simp
          try rfl
        case ka8 =>
        go_simp
        refine wpLoad_step ?va9 rfl (fun w' hS => ?ya9) ?ka9
        case ya9 =>
          obtain ⟨h1, h2, h3, h4⟩ := hS
          go_simp
          try rfl
        case ka9 =>
        go_simp
        refine wpLoad_step ?va10 rfl (fun w' hS => ?ya10) ?ka10
        case ya10 =>
          obtain ⟨h1, h2, h3, h4⟩ := hS
          go_simp
          try rfl
        case ka10 =>
        go_simp
        refine wpLoad_step ?va11 rfl (fun w' hS => ?ya11) ?ka11
        case ya11 =>
          obtain ⟨h1, h2, h3, h4⟩ := hS
          go_simp
          try rfl
        case ka11 =>
        go_simp
        refine wpLoad_nil ?_
        refine wpKeep_step rfl ?_
        go_simp
        refine CL1.out.mono ?_
        rintro e w3 ⟨u1, v1, rfl, hT1, hb3⟩
        obtain ⟨u1, v1, rfl, rfl⟩ := hT1.shape
        have hb3 : Below wr.heap.size wr w3 := ((Below.refl _ _).drew).trans hb3
        have kp3 : ∀ p : Addr, p.block = g → w3.cell? p = wr.cell? p := fun p hp => hb3.cell (by rw [hp]; exact gl)
        have f0 := (kp3 _ HSB0.out).trans e0
        have f1 := (kp3 ⟨(ad.add (k * 4)).block, (ad.add (k * 4)).off + 1, none⟩ HSB0.out).trans e1
        have f2 := (kp3 ⟨(ad.add (k * 4)).block, (ad.add (k * 4)).off + 2, none⟩ HSB0.out).trans e2
        have f3 := (kp3 ⟨(ad.add (k * 4)).block, (ad.add (k * 4)).off + 2 + 1, none⟩ HSB0.out).trans e3
        refine ⟨⟨f0, f1, f2, f3⟩, ?_⟩
        have hEq3 := HEQ.out.2.keep (w' := w3) (fun p hp => hb3.cell hp.2.1)
        have CL2 := Lib.hid (clean_any x.2 _ _ w3 (hEq3.more fun _ h => Nat.lt_of_lt_of_le h.2.1 hb3.size))
        have HT1 : Hid (TyIs w3 (FrP w3 wr.heap.size) (cleanT x.1) (sv u1) (.slice v1.1 v1.2.1 v1.2.2)) := Lib.hid hT1
        have HB3 := Lib.hid hb3
        have hsz3 := hb3.size
        clear hT1 hb3 hEq3 kp3
        refine wpKeep_step rfl ?_
        go_simp
        refine CL2.out.mono ?_
        rintro e w4 ⟨u2, v2, rfl, hT2, hb4⟩
        obtain ⟨u2, v2, rfl, rfl⟩ := hT2.shape
        have HT12 := Lib.hid (HT1.out.plainNow hb4)
        have hb4w := HB3.out.trans (hb4.mono hsz3)
        have kp4 : ∀ p : Addr, p.block = g → w4.cell? p = wr.cell? p := fun p hp => hb4w.cell (by rw [hp]; exact gl)
        have f0 := (kp4 _ HSB0.out).trans e0
        have f1 := (kp4 ⟨(ad.add (k * 4)).block, (ad.add (k * 4)).off + 1, none⟩ HSB0.out).trans e1
        have f2 := (kp4 ⟨(ad.add (k * 4)).block, (ad.add (k * 4)).off + 2, none⟩ HSB0.out).trans e2
        have f3 := (kp4 ⟨(ad.add (k * 4)).block, (ad.add (k * 4)).off + 2 + 1, none⟩ HSB0.out).trans e3
        refine ⟨⟨f0, f1, f2, f3⟩, ?_⟩
        have hE4 := HE'.out.below hb4w
        have hown4 := hE4.own
        rw [HL'.out] at hown4
        have z0 : w4.frozen? (ad.add (k * 4)) = false := by rw [HADD.out]; exact hown4.frozenAt _
        have z1 : w4.frozen? ⟨(ad.add (k * 4)).block, (ad.add (k * 4)).off + 1, none⟩ = false := by rw [HADD.out]; exact hown4.frozenAt _
        have z2 : w4.frozen? ⟨(ad.add (k * 4)).block, (ad.add (k * 4)).off + 2, none⟩ = false := by rw [HADD.out]; exact hown4.frozenAt _
        have z3 : w4.frozen? ⟨(ad.add (k * 4)).block, (ad.add (k * 4)).off + 2 + 1, none⟩ = false := by rw [HADD.out]; exact hown4.frozenAt _
        have HPUT : Hid (EqAt lo (k + 1) (E'.set k (cleanT x.1, cleanT x.2)) (.slice (some ⟨g, 0, none⟩) n lc) (vs'.set k ((sv u1, .slice v1.1 v1.2.1 v1.2.2), (sv u2, .slice v2.1 v2.2.1 v2.2.2))) ((((w4.setCell ⟨g, k * 4, none⟩ (sv u1)).setCell ⟨g, k * 4 + 1, none⟩ (.slice v1.1 v1.2.1 v1.2.2)).setCell ⟨g, k * 4 + 2, none⟩ (sv u2)).setCell ⟨g, k * 4 + 3, none⟩ (.slice v2.1 v2.2.1 v2.2.2))) := Lib.hid (by
          have h4 := hE4
          rw [← HL'.out] at h4 ⊢
          refine h4.put (x := (cleanT x.1, cleanT x.2)) (p := ((sv u1, .slice v1.1 v1.2.1 v1.2.2), (sv u2, .slice v2.1 v2.2.1 v2.2.2))) (by rw [HL'.out]; exact hlt) ⟨HT12.out.more fun y hy => ⟨?_, hy.2.1, ?_, hy.2.2⟩, hT2.more fun y hy => ⟨?_, hy.2.1, ?_, hy.2.2⟩⟩
          · have := hy.1; have := HB2.out.size; omega
          · have := hy.1; omega
          · have := hy.1; have := HB2.out.size; omega
          · have := hy.1; omega)
        have HB4 : Hid (Below w.heap.size w ((((w4.setCell ⟨g, k * 4, none⟩ (sv u1)).setCell ⟨g, k * 4 + 1, none⟩ (.slice v1.1 v1.2.1 v1.2.2)).setCell ⟨g, k * 4 + 2, none⟩ (sv u2)).setCell ⟨g, k * 4 + 3, none⟩ (.slice v2.1 v2.2.1 v2.2.2))) := Lib.hid ((((hb.trans (hb4w.mono hsz)).setCell (by dsimp only; omega) _).setCell (by dsimp only; omega) _ |>.setCell (by dsimp only; omega) _).setCell (by dsimp only; omega) _)
        clear hT2 hb4 hb4w kp4 hE4 hown4 e0 e1 e2 e3
        refine wpKeep_nil ?_
        rw [HADD.out] at f0 f1 f2 f3 z0 z1 z2 z3
        simp only [HADD.out]
        dsimp only at f0 f1 f2 f3 z0 z1 z2 z3
        have hadd := HADD.out
        go_wp2
        refine NoPanic.normal ?_
        go_wp2
        go_roundw
        case rel =>
          refine ⟨k + 1, E'.set k (cleanT x.1, cleanT x.2), vs'.set k ((sv u1, .slice v1.1 v1.2.1 v1.2.2), (sv u2, .slice v2.1 v2.2.1 v2.2.2)), by omega, by go_num, ?_, by simpa using HL'.out, fun j y hy => ?_, ?_⟩
          · have := HPUT.out
            rw [← HAD.out] at this
            exact this
          · by_cases hj : k = j
            · subst hj
              rw [List.getElem?_set_self (by rw [HL'.out]; exact hlt)] at hy
              obtain rfl := Option.some.inj hy
              obtain ⟨⟨d1, hd1, hx1⟩, d2, hd2, hx2⟩ := HDQ.out
              have c1 := clean_cty hx1
              have c2 := clean_cty hx2
              have s1 := hx1.size
              have s2 := hx2.size
              have p1 : 2 ^ d1 ≤ 2 ^ 2 := Nat.pow_le_pow_right (by omega) hd1
              have p2 : 2 ^ d2 ≤ 2 ^ 2 := Nat.pow_le_pow_right (by omega) hd2
              exact ⟨fun _ => ⟨c1.1, c2.1, by rw [c1.2]; omega, by rw [c2.2]; omega⟩, fun h => absurd h (by omega)⟩
            · rw [List.getElem?_set_ne hj] at hy
              have := HQ'.out j y hy
              exact ⟨fun h => this.1 (by omega), fun h => this.2 (by omega)⟩
          · exact HB4.out
        case measure => simp [intOf]; omega
    · obtain rfl : k = n := by omega
      have hC : ∀ x ∈ E', CEq x := fun x hx => by
        obtain ⟨j, hj⟩ := List.mem_iff_getElem?.1 hx
        have := (List.getElem?_eq_some_iff.1 hj).1
        exact (hq' j x hj).1 (by omega)
      have HEA : Hid (EqAt lo k E' (.slice LA k lc) vs' wr) := Lib.hid hE'
      have HL' := Lib.hid hl'
      have HC := Lib.hid hC
      have HBR := Lib.hid hb
      clear hE' hl' hq' hC hb HE HQ HNE HLA HB2
      have hrow := HEA.out.row HL'.out
      have HROW := Lib.hid hrow
      obtain ⟨kt, hkt0, hkt⟩ : ∃ kt : Nat, turn % ((k : Int) + 1) = (kt : Int) ∧ kt ≤ k := by
        have h1 : 0 ≤ turn % ((k : Int) + 1) := Int.emod_nonneg _ (by omega)
        have h2 : turn % ((k : Int) + 1) < (k : Int) + 1 := Int.emod_lt_of_pos _ (by omega)
        exact ⟨(turn % ((k : Int) + 1)).toNat, by omega, by omega⟩
      have md := mod_any turn ((k : Int) + 1) wr ht0 ht1 (by omega) (by omega)
      rw [hkt0] at md
      have MD := Lib.hid md
      have hwk : IntKind.i64.wrap ((k : Int) + 1) = (k : Int) + 1 := by
        rw [IntKind.wrap_i64]; omega
      clear md hkt0 hrow
      go_wp2_with fail
      refine MD.out.mono ?_
      rintro e w5 ⟨rfl, rfl⟩
      clear MD hwk ht0 ht1
      obtain ⟨i0, hi, hz0, hz1, hz2⟩ := info_parts infoE
      have hik : (0 : Int) ≤ (kt : Int) ∧ (kt : Int) ≤ (k : Int) ∧ (kt : Int) ≤ (lc : Int) := ⟨by omega, by omega, by omega⟩
      have hik1 : (0 : Int) ≤ (kt : Int) := by omega
      have hik2 : (kt : Int) ≤ (k : Int) := by omega
      have hik3 : (kt : Int) ≤ (lc : Int) := by omega
      have HKT := Lib.hid hkt
      obtain ⟨AA, hAA⟩ : ∃ AA, AA = (if lc = kt then LA else LA.map (·.add (kt * 4))) := ⟨_, rfl⟩
      have HAA := Lib.hid hAA
      have HTL := HROW.out.tail kt lc (by rw [HL'.out]; exact hlc1)
      rw [← hAA] at HTL
      have HTL := Lib.hid HTL
      clear hkt hAA
      go_wp2_with fail
      refine wp_region_held' (fun w' => True) [0, 1, 2, 4, 5, 6] [] [3] [7, 8] (by kernel_rfl) (by kernel_rfl) ?sb ?hb
      case sb => trivial
      case hb =>
        simp only [opsAt, List.filterMap_cons, List.filterMap_nil, List.getElem?_toArray, List.getElem?_cons_succ, List.getElem?_cons_zero]
        refine wpFloat_step ?vg0 rfl (fun w' => ?yg0) ?kg0
        case yg0 =>
          go_simp
          try rfl
        case kg0 =>
        go_simp
        refine wpFloat_step ?vg1 rfl (fun w' => ?yg1) ?kg1
        case yg1 =>
          go_simp
          try rfl
        case kg1 =>
        go_simp
        refine wpFloat_step (.slice AA (k - kt) (lc - kt)) rfl (fun w' => ?yg2) ?kg2
        case yg2 =>
          go_simp
          rw [HAA.out]
          try rfl
        case kg2 =>
        go_simp
        refine wpFloat_step ?vg3 rfl (fun w' => ?yg3) ?kg3
        case yg3 =>
          go_simp
          try rfl
        case kg3 =>
        go_simp
        refine wpFloat_step ?vg4 rfl (fun w' => ?yg4) ?kg4
        case yg4 =>
          go_simp
          try rfl
        case kg4 =>
        go_simp
        refine wpFloat_step ?vg5 rfl (fun w' => ?yg5) ?kg5
        case yg5 =>
          go_simp
          try rfl
        case kg5 =>
        go_simp
        refine wpFloat_nil ?_
        refine wpLoad_nil ?_
        refine wpKeep_step rfl ?_
        refine wp_append_row _ _ 43 rfl wr.heap.size 47 i0 _ 4 80 Tryd.underlying43 hi hz0 hz1 hz2 rfl (by omega) _ 0 [] rfl (World.ownsRow_nil _ _ _ _) (PlS wr) AA (k - kt) (lc - kt) (flat4 (vs'.drop kt)) rfl ?a1 ?a2 ?a3 ?a4 ?a5 (Nat.le_refl _) ?_
        case a1 => rw [flat4_length, List.length_drop, HROW.out.len, HL'.out]
        case a2 => exact HTL.out.row.keep fun _ _ => rfl
        case a3 => exact flat4_one HTL.out
        case a4 => unfold maxLen; omega
        case a5 => omega
        intro v1 w6 hown1 hg1 hat1
        have hb6 : Below wr.heap.size wr w6 := ((Below.refl wr.heap.size wr).drew).grown hg1 (Nat.le_refl _) (fun x e => by cases e)
        simp only [Nat.zero_add, List.nil_append] at hown1
        have hs6 := hb6.size
        refine ⟨trivial, ?_⟩
        refine wpKeep_nil ?_
        refine wpList_append_row rfl _ _ 43 rfl wr.heap.size 47 i0 _ 4 80 Tryd.underlying43 hi hz0 hz1 hz2 rfl (by omega) v1 (k - kt) (flat4 (vs'.drop kt)) rfl hown1 (PlS wr) LA kt lc (flat4 (vs'.take kt)) rfl ?b1 ?b2 ?b3 ?b4 ?b5 hs6 ?_
        case b1 => rw [flat4_length, List.length_take, HROW.out.len, HL'.out]; have := HKT.out; omega
        case b2 => exact (HROW.out.front kt).row.keep ((kept_below hb6).sub fun y hy => hy.1)
        case b3 => exact flat4_one (HROW.out.front kt)
        case b4 => unfold maxLen; omega
        case b5 => have := HKT.out; omega
        intro v2 w7 hown2 hg2 hat2
        have hb7 : Below wr.heap.size wr w7 := hb6.grown hg2 hs6 (fun x e => (hown1.lt _ e).1)
        rw [show k - kt + kt = k by have := HKT.out; omega] at hown2
        obtain ⟨MA, mc, rfl, hrowM⟩ := HROW.out.turned (k := kt) hb7 hown2
        have hsz7 := hb7.size
        have HB7 := Lib.hid (HBR.out.trans (hb7.mono HBR.out.size))
        have HROW7 := Lib.hid (HROW.out.below hb7)
        have HROWM := Lib.hid hrowM
        clear hrowM hb7 hb6 hown1 hown2 hg1 hg2 hat1 hat2 hs6
        go_wp2
        refine NoPanic.normal ?_
        have hml : (E'.drop kt ++ E'.take kt).length = k := by
          rw [List.length_append, List.length_drop, List.length_take, HL'.out]; have := HKT.out; omega
        have hmem : ∀ x, x ∈ E' ↔ x ∈ E'.drop kt ++ E'.take kt := fun x => by
          rw [List.mem_append, Or.comm, ← List.mem_append, List.take_append_drop]
        have HML := Lib.hid hml
        have HMEM := Lib.hid hmem
        obtain ⟨M, hM⟩ : ∃ M, M = E'.drop kt ++ E'.take kt := ⟨_, rfl⟩
        rw [← hM] at HML HMEM HROWM
        clear hM hml hmem hi hz0 hz1 hz2 hik hik1 hik2 hik3
        have SOL := Lib.hid (csolve_any E' LA lc vs' w7 HROW7.out HC.out (by rw [HL'.out]; omega))
        rw [HL'.out] at SOL
        go_wp2_with fail
        refine SOL.out.mono ?_
        rintro e w8 ⟨rs, G, SA, DA, sc, dc, svs, rfl, hch, hTs, hsc1, hsc2, hDr, hb8, hGQ, hsnd⟩
        have SOM := Lib.hid (csolve_any M MA mc _ w8 (HROWM.out.below hb8) (fun x hx => HC.out x ((HMEM.out x).2 hx)) (by rw [HML.out]; omega))
        rw [HML.out] at SOM
        obtain ⟨ρ, θ, hu, hq⟩ := sol_use hch cty_down hGQ
        have hul := hu.le
        have HU := Lib.hid hu
        have HQS := Lib.hid hq
        have HCH := Lib.hid hch
        have HSN := Lib.hid (hsnd cty_clean)
        have HTS := Lib.hid hTs
        have HB8 := Lib.hid (HB7.out.trans (hb8.mono HB7.out.size))
        obtain ⟨sl, hsl⟩ : ∃ sl, sl = solLen G := ⟨_, rfl⟩
        obtain ⟨dl, hdl⟩ : ∃ dl, dl = (drops rs 0).length := ⟨_, rfl⟩
        rw [← hsl, ← hdl]
        rw [← hsl] at hul
        have HSL : Hid ((solL G).length = sl) := Lib.hid (by rw [hu.len, hsl])
        have HDL := Lib.hid hdl
        have hsz8 := hb8.size
        clear hsl hdl hu hq hch hsnd hTs hb8 hGQ hDr hsc1 hsc2 SOL
        go_wp2_with fail
        refine SOM.out.mono ?_
        rintro e w9 ⟨rs', G', SB, DB, sd, dd, svt, rfl, hch', hTs', hsd1, hsd2, hDr', hb9, hGQ', hsnd'⟩
        obtain ⟨ρ', φ, hu', hq'⟩ := sol_use hch' cty_down hGQ'
        have hul' := hu'.le
        have hord := any_order HCH.out hch' HSN.out (hsnd' cty_clean) HMEM.out
        have HU' := Lib.hid hu'
        have HQS' := Lib.hid hq'
        have HTS' := Lib.hid (hTs'.more (S' := Lt w9.heap.size) fun y hy => hy.2)
        have HTS9 := Lib.hid ((HTS.out.keep ((kept_below hb9).sub fun y hy => hy.2)).more (S' := Lt w9.heap.size) fun y hy => Nat.lt_of_lt_of_le hy.2 hb9.size)
        have HB9 := Lib.hid (HB8.out.trans (hb9.mono HB8.out.size))
        obtain ⟨sl', hsl'⟩ : ∃ sl', sl' = solLen G' := ⟨_, rfl⟩
        obtain ⟨dl', hdl'⟩ : ∃ dl', dl' = (drops rs' 0).length := ⟨_, rfl⟩
        rw [← hsl', ← hdl']
        rw [← hsl'] at hul'
        have HSL' : Hid ((solL G').length = sl') := Lib.hid (by rw [hu'.len, hsl'])
        rw [← hdl', ← HDL.out] at hord
        have HORD := Lib.hid hord
        clear hsl' hdl' hu' hq' hch' hsnd' hTs' hb9 hGQ' hDr' hsd1 hsd2 hord SOM
        by_cases h0 : dl = 0
        · have hz1 : ((dl : Int) == 0) = true := by simp [h0]
          have hz2 : ((dl' : Int) == 0) = true := by
            have := HORD.out.1.1 h0
            simp [this]
          have HSIZE := Lib.hid fun t => HORD.out.2 h0 θ φ HU.out.app2 HU'.out.app2 t
          have HH0 := Lib.hid h0
          clear h0
          go_wp2_with fail
          refine (awake_any w9).mono ?_
          rintro e w10 ⟨rfl, hb10⟩
          have HT10 := Lib.hid ((HTS9.out.keep (kept_below hb10)).more (S' := Lt w10.heap.size) fun y hy => Nat.lt_of_lt_of_le hy hb10.size)
          have HT10' := Lib.hid ((HTS'.out.keep (kept_below hb10)).more (S' := Lt w10.heap.size) fun y hy => Nat.lt_of_lt_of_le hy hb10.size)
          have HB10 := Lib.hid (HB9.out.trans (hb10.mono HB9.out.size))
          clear hb10
          go_wp2_with fail
          go_loopw [14] (fun iv wl => ∃ i : Nat, i ≤ 4 ∧ iv = .int .i64 (i : Int) ∧ Below w10.heap.size w10 wl) (fun iv _ => 4 - (intOf iv).toNat)
          case atStart => exact ⟨0, by omega, rfl, Below.refl _ _⟩
          case round =>
            obtain ⟨i, hi4, rfl, hbl⟩ := hrel
            by_cases hlt : i < 4
            · have hg1 : decide ((i : Int) < 4) = true := by simp; omega
              have hszl := hbl.size
              have HBL := Lib.hid hbl
              have V1 := Lib.hid (v_at i (by omega) wr)
              clear hbl
              go_wp2_with fail
              refine V1.out.mono ?_
              rintro e w11 ⟨rfl, hb11⟩
              have hbw := HBL.out.trans (hb11.mono hszl)
              have HN1 := Lib.hid (tnodes_any (solL G) CTy cty_down.toDown HQS.out ρ HU.out.rank θ HU.out.appl SA sc svs (tyV i) _ _ w11 ((HT10.out.keep (kept_below hbw)).more (S' := Lt w11.heap.size) fun y hy => Nat.lt_of_lt_of_le hy hbw.size) (tyV_at i (by omega)) (by rw [HSL.out]; omega) (cty_tyV i hlt))
              rw [HSL.out] at HN1
              obtain ⟨ca, hca⟩ : ∃ ca, ca = capS (sub θ (tyV i)).size := ⟨_, rfl⟩
              rw [← hca] at HN1
              have HCA := Lib.hid hca
              have HBW := Lib.hid hbw
              clear hca hb11 hbw
              go_wp2_with fail
              refine HN1.out.mono ?_
              rintro e w12 ⟨rfl, hb12⟩
              have HB12 := Lib.hid (HBW.out.trans (hb12.mono HBW.out.size))
              have V2 := Lib.hid (v_at i (by omega) w12)
              clear hb12
              go_wp2_with fail
              refine V2.out.mono ?_
              rintro e w13 ⟨rfl, hb13⟩
              have hbw := HB12.out.trans (hb13.mono HB12.out.size)
              have HN2 := Lib.hid (tnodes_any (solL G') CTy cty_down.toDown HQS'.out ρ' HU'.out.rank φ HU'.out.appl SB sd svt (tyV i) _ _ w13 ((HT10'.out.keep (kept_below hbw)).more (S' := Lt w13.heap.size) fun y hy => Nat.lt_of_lt_of_le hy hbw.size) (tyV_at i (by omega)) (by rw [HSL'.out]; omega) (cty_tyV i hlt))
              rw [HSL'.out, ← HSIZE.out (tyV i), ← HCA.out] at HN2
              have HBW13 := Lib.hid hbw
              have hne : ((ca : Int) != (ca : Int)) = false := by simp
              clear hbw hb13
              go_wp2_with fail
              refine HN2.out.mono ?_
              rintro e w14 ⟨rfl, hb14⟩
              have HB14 := Lib.hid (HBW13.out.trans (hb14.mono HBW13.out.size))
              clear hb14
              go_wp2
              go_roundw
              case rel => exact ⟨i + 1, by omega, by go_num, HB14.out⟩
              case measure => simp [intOf]; omega
            · obtain rfl : i = 4 := by omega
              have HBL := Lib.hid (HB10.out.trans (hbl.mono HB10.out.size))
              clear hbl
              go_wp2
              go_ret
              exact ⟨rfl, HBL.out⟩
        · have hz1 : ((dl : Int) == 0) = false := by simp [h0]
          have hz2 : ((dl' : Int) == 0) = false := by
            have : dl' ≠ 0 := fun h => h0 (HORD.out.1.2 h)
            simp [this]
          have HH0 := Lib.hid h0
          clear h0
          go_wp2_with fail
          refine (awake_any w9).mono ?_
          rintro e w10 ⟨rfl, hb10⟩
          have HB10 := Lib.hid (HB9.out.trans (hb10.mono HB9.out.size))
          clear hb10
          go_wp2_with fail
          go_loopw [14] (fun iv wl => iv = .int .i64 0 ∧ Below w.heap.size w wl) (fun iv _ => 0)
          case atStart => exact ⟨rfl, HB10.out⟩
          case round =>
            obtain ⟨rfl, hbl⟩ := hrel
            have HBL := Lib.hid hbl
            clear hbl
            go_wp2
            go_ret
            exact ⟨rfl, HBL.out⟩
end Go.Proofs.YtndhglcdkegigaaDoor
