/-
  The walk of recompilelaw09.TypesAgree (printed by genAg.py).
  Conditions: the numbers are ints.
-/
import Derived.Test.YtndhglcdkegigaaDoorCEq
import Derived.Test.YtndhglcdkegigaaDoorAwk
import Derived.Test.YtndhglcdkegigaaDoorRefSame
namespace Go.Proofs.YtndhglcdkegigaaDoor
open Go.RowKit

theorem drops_split : ∀ (rs : List Bool) (i s : Nat), drops rs s = drops (rs.take i) s ++ drops (rs.drop i) (s + i)
  | rs, 0, s => by simp [drops]
  | [], i + 1, s => by simp [drops]
  | r :: rs, i + 1, s => by
    have := drops_split rs i (s + 1)
    have e : s + 1 + i = s + (i + 1) := by omega
    rw [e] at this
    cases r <;> simp [drops, this]
theorem drops_ge : ∀ (rs : List Bool) (s : Nat), ∀ x ∈ drops rs s, s ≤ x ∧ x < s + rs.length
  | [], s, x, h => by simp [drops] at h
  | r :: rs, s, x, h => by
    cases r with
    | true =>
      have := drops_ge rs (s + 1) x (by simpa [drops] using h)
      simp only [List.length_cons]
      omega
    | false =>
      simp only [drops, Bool.false_eq_true, if_false, List.mem_cons] at h
      simp only [List.length_cons]
      rcases h with rfl | h
      · omega
      · have := drops_ge rs (s + 1) x h
        omega
/-- Where one stands in what was dropped. -/
theorem drops_no {rs : List Bool} {i : Nat} (h : rs[i]? = some false) : (drops rs 0)[(drops (rs.take i) 0).length]? = some i ∧ (drops (rs.take (i + 1)) 0).length = (drops (rs.take i) 0).length + 1 := by
  have hi := (List.getElem?_eq_some_iff.1 h).1
  have hr : rs[i] = false := Option.some.inj ((List.getElem?_eq_getElem hi).symm.trans h)
  have e : rs.drop i = false :: rs.drop (i + 1) := by rw [List.drop_eq_getElem_cons hi, hr]
  refine ⟨?_, ?_⟩
  · rw [drops_split rs i 0, List.getElem?_append_right (Nat.le_refl _), e]
    simp [drops]
  · rw [List.take_succ_eq_append_getElem hi, hr, drops_snoc]
    simp
theorem drops_yes {rs : List Bool} {i : Nat} (h : rs[i]? = some true) : (∀ x, (drops rs 0)[(drops (rs.take i) 0).length]? = some x → x ≠ i) ∧ (drops (rs.take (i + 1)) 0).length = (drops (rs.take i) 0).length := by
  have hi := (List.getElem?_eq_some_iff.1 h).1
  have hr : rs[i] = true := Option.some.inj ((List.getElem?_eq_getElem hi).symm.trans h)
  have e : rs.drop i = true :: rs.drop (i + 1) := by rw [List.drop_eq_getElem_cons hi, hr]
  refine ⟨fun x hx => ?_, ?_⟩
  · rw [drops_split rs i 0, List.getElem?_append_right (Nat.le_refl _), e] at hx
    simp only [drops, if_true, Nat.sub_self] at hx
    have := (drops_ge _ _ x (List.mem_of_getElem? hx)).1
    omega
  · rw [List.take_succ_eq_append_getElem hi, hr, drops_snoc]
    simp
theorem solLen_100 {G : Gv} (h : ∀ g ∈ G, g.1 < 100) : solLen G ≤ 100 := by
  rcases solLen_at G with h0 | ⟨g, hg, h1⟩
  · omega
  · have := h g hg
    omega
theorem appT_small {θ : Nat → Ty} {t : Ty} (h : ¬ capS (sub θ t).size > 200) : appT θ t = sub θ t := by
  unfold capS at h
  unfold appT
  rw [if_neg (by omega)]

set_option maxHeartbeats 16000000 in
set_option maxRecDepth 100000 in
theorem agree_light (xs : List Int) (TA : Option Addr) (tc : Nat) (w : World) (hA : Row w (Lt w.heap.size) TA (xs.map (Value.int .i64))) (hn : xs.length ≤ 400) (hf : ∀ x ∈ xs, -9223372036854775808 ≤ x ∧ x ≤ 9223372036854775807) :
    Calls Tryd.prog 7 #[.slice TA xs.length tc] w fun e w' => e = .returned (.bool true) ∧ Below w.heap.size w w' := by
  have hli := light_any xs.length TA tc w
  rw [show decide (xs.length ≤ 400) = true by simpa using hn] at hli
  have hro := roll_any xs TA tc w hA hn hf
  have HLI := Lib.hid hli
  have HRO := Lib.hid hro
  clear hli hro hA hf
  generalize xs.length = nx at *
  go_enter Tryd.func7, Tryd.ntmps7
  go_wp2_with fail
  refine HLI.out.mono ?_
  rintro e w0 ⟨rfl, rfl⟩
  go_wp2_with fail
  refine HRO.out.mono ?_
  rintro e w1 ⟨rfl, hD1, hb1⟩
  have EQS := Lib.hid (equations_any w.heap.size xs w1 hD1)
  have hdl := hD1.lt
  have HB1 := Lib.hid hb1
  clear hb1 HLI HRO hD1
  go_wp2_with fail
  refine EQS.out.mono ?_
  rintro e w2 ⟨E, lv, vs, rfl, hE, hn7, hQ, hT⟩
  obtain ⟨lo, hlo⟩ : ∃ lo, lo = w1.heap.size := ⟨_, rfl⟩
  rw [← hlo] at hE hdl
  obtain ⟨LA, lc, rfl, hlc1, hlc2, hLA⟩ := hE.shape
  obtain ⟨n, hnE⟩ : ∃ n, n = E.length := ⟨_, rfl⟩
  rw [← hnE] at hE hn7 hlc1 hLA ⊢
  have HNE := Lib.hid hnE
  have HB2 : Hid (Below w.heap.size w w2) := Lib.hid (by
    have hb1 := HB1.out
    have hk := hT.2
    exact hb1.trans ⟨hk.os, hk.tape, hk.output, hk.size, fun y hy => hk.block y (by have := hb1.size; omega) (by omega)⟩)
  have HE := Lib.hid hE
  have HQ := Lib.hid hQ
  have HLA := Lib.hid hLA
  have hlo2 : lo ≤ w2.heap.size := by rw [hlo]; exact hT.2.size
  clear hnE hE hQ hT hLA hlo EQS
  go_wp2_with fail
  go_loopw [5] (fun i wr => ∃ (k : Nat) (E' : List Eqn) (vs' : List EV), k ≤ n ∧ i = .int .i64 (k : Int) ∧ EqAt lo k E' (.slice LA n lc) vs' wr ∧ E'.length = n ∧ (∀ (j : Nat) (x : Eqn), E'[j]? = some x → (j < k → CEq x) ∧ (k ≤ j → DEq x)) ∧ Below w.heap.size w wr) (fun i _ => n - (intOf i).toNat)
  case atStart => exact ⟨0, E, vs, Nat.zero_le _, rfl, HE.out, HNE.out.symm, (fun j x hx => ⟨fun h => absurd h (Nat.not_lt_zero _), fun _ => HQ.out x (List.mem_of_getElem? hx)⟩), HB2.out⟩
  case round =>
    obtain ⟨k, E', vs', hk, rfl, hE', hl', hq', hb⟩ := hrel
    by_cases hlt : k < n
    · obtain ⟨g, rfl⟩ := HLA.out (by omega)
      have hki : k < E'.length := by omega
      have hkv : k < vs'.length := by rw [hE'.len]; exact hki
      have hx := List.getElem?_eq_getElem hki
      have hp := List.getElem?_eq_getElem hkv
      have hEq := hE'.each k _ _ hx hp
      have hdq := (hq' k _ hx).2 (Nat.le_refl _)
      obtain ⟨r0, r1, r2, r3⟩ := flat4_at _ _ _ hp
      generalize hEx : E'[k] = x at *
      generalize hEp : vs'[k] = p at *
      obtain ⟨n1, n2, a1, a2, rfl⟩ := hEq.shape
      dsimp only at r0 r1 r2 r3
      have hown := hE'.own
      rw [hl'] at hown
      have hfl := flat4_length vs'
      have hvl := hE'.len
      have gl := (hown.lt g rfl).2
      have glo := (hown.lt g rfl).1
      have hcl : ∀ j u, (flat4 vs')[j]? = some u → wr.cell? ⟨g, j, none⟩ = some u := fun j u h => (hown.cellAt j (by have := (List.getElem?_eq_some_iff.1 h).1; omega)).trans h
      obtain ⟨ad, had⟩ : ∃ ad : Addr, ad = ⟨g, 0, none⟩ := ⟨_, rfl⟩
      have hadd : ad.add (k * 4) = ⟨g, k * 4, none⟩ := by
        rw [had]
        unfold Addr.add
        split <;> simp_all
      rw [← had]
      have e0 : wr.cell? (ad.add (k * 4)) = some (sv n1) := by rw [hadd]; exact hcl _ _ r0
      have e1 : wr.cell? ⟨(ad.add (k * 4)).block, (ad.add (k * 4)).off + 1, none⟩ = some (.slice a1.1 a1.2.1 a1.2.2) := by rw [hadd]; exact hcl _ _ r1
      have e2 : wr.cell? ⟨(ad.add (k * 4)).block, (ad.add (k * 4)).off + 2, none⟩ = some (sv n2) := by rw [hadd]; exact hcl _ _ r2
      have e3 : wr.cell? ⟨(ad.add (k * 4)).block, (ad.add (k * 4)).off + 2 + 1, none⟩ = some (.slice a2.1 a2.2.1 a2.2.2) := by rw [hadd]; exact hcl _ _ r3

      have hsb0 : (ad.add (k * 4)).block = g := by rw [hadd]

      have HSB0 := Lib.hid hsb0
      have HADD := Lib.hid hadd
      have HAD := Lib.hid had
      have CL1 := Lib.hid (clean_any x.1 _ _ wr.drew ((TyIs.keep (w' := wr.drew) hEq.1 fun _ _ => rfl).more fun _ h => h.2.1))
      have HEQ := Lib.hid hEq
      have HDQ := Lib.hid hdq
      have HE' := Lib.hid hE'
      have HL' := Lib.hid hl'
      have HQ' := Lib.hid hq'
      have HOWN := Lib.hid hown
      have hsz := hb.size
      have hik : (0 : Int) ≤ (k : Int) ∧ (k : Int) < (n : Int) := ⟨by omega, by omega⟩
      clear hx hp hEx hEp hEq hdq r0 r1 r2 r3 hE' hl' hq' hown hcl hadd had hsb0 hfl hvl hki hkv
      go_wp2_with fail
      refine wp_region_held' (fun w' => w'.cell? (ad.add (k * 4)) = some (sv n1) ∧ w'.cell? ⟨(ad.add (k * 4)).block, (ad.add (k * 4)).off + 1, none⟩ = some (.slice a1.1 a1.2.1 a1.2.2) ∧ w'.cell? ⟨(ad.add (k * 4)).block, (ad.add (k * 4)).off + 2, none⟩ = some (sv n2) ∧ w'.cell? ⟨(ad.add (k * 4)).block, (ad.add (k * 4)).off + 2 + 1, none⟩ = some (.slice a2.1 a2.2.1 a2.2.2)) [2, 3] [0, 1, 4, 5, 6, 7, 8, 10, 11, 12, 13, 14] [9, 15] [16, 17, 18, 19, 20, 21] (by kernel_rfl) (by kernel_rfl) ?sa ?ha
      case sa => exact ⟨e0, e1, e2, e3⟩
      case ha =>
        simp only [opsAt, List.filterMap_cons, List.filterMap_nil, List.getElem?_toArray, List.getElem?_cons_succ, List.getElem?_cons_zero]
        refine wpFloat_step ?vf0 rfl (fun w' => ?yf0) ?kf0
        case yf0 =>
          go_simp
          try rfl
        case kf0 =>
        go_simp
        refine wpFloat_step ?vf1 rfl (fun w' => ?yf1) ?kf1
        case yf1 =>
          go_simp
          try rfl
        case kf1 =>
        go_simp
        refine wpFloat_nil ?_
        refine wpLoad_step ?va0 rfl (fun w' hS => ?ya0) ?ka0
        case ya0 =>
          obtain ⟨h1, h2, h3, h4⟩ := hS
          go_simp
          try rfl
        case ka0 =>
        go_simp
        refine wpLoad_step ?va1 rfl (fun w' hS => ?ya1) ?ka1
        case ya1 =>
          obtain ⟨h1, h2, h3, h4⟩ := hS
          go_simp
          try rfl
        case ka1 =>
        go_simp
        refine wpLoad_step ?va2 rfl (fun w' hS => ?ya2) ?ka2
        case ya2 =>
          obtain ⟨h1, h2, h3, h4⟩ := hS
          go_simp
          try rfl
        case ka2 =>
        go_simp
        refine wpLoad_step ?va3 rfl (fun w' hS => ?ya3) ?ka3
        case ya3 =>
          obtain ⟨h1, h2, h3, h4⟩ := hS
          go_simp
          try rfl
        case ka3 =>
        go_simp
        refine wpLoad_step ?va4 rfl (fun w' hS => ?ya4) ?ka4
        case ya4 =>
          obtain ⟨h1, h2, h3, h4⟩ := hS
          go_simp
          try rfl
        case ka4 =>
        go_simp
        refine wpLoad_step ?va5 rfl (fun w' hS => ?ya5) ?ka5
        case ya5 =>
          obtain ⟨h1, h2, h3, h4⟩ := hS
          go_simp
          try rfl
        case ka5 =>
        go_simp
        refine wpLoad_step ?va6 rfl (fun w' hS => ?ya6) ?ka6
        case ya6 =>
          obtain ⟨h1, h2, h3, h4⟩ := hS
          go_simp
          try rfl
        case ka6 =>
        go_simp
        refine wpLoad_step ?va7 rfl (fun w' hS => ?ya7) ?ka7
        case ya7 =>
          obtain ⟨h1, h2, h3, h4⟩ := hS
          go_simp
          try rfl
        case ka7 =>
        go_simp
        refine wpLoad_step ?va8 rfl (fun w' hS => ?ya8) ?ka8
        case ya8 =>
          obtain ⟨h1, h2, h3, h4⟩ := hS
          go_simp
          try rfl
        case ka8 =>
        go_simp
        refine wpLoad_step ?va9 rfl (fun w' hS => ?ya9) ?ka9
        case ya9 =>
          obtain ⟨h1, h2, h3, h4⟩ := hS
          go_simp
          try rfl
        case ka9 =>
        go_simp
        refine wpLoad_step ?va10 rfl (fun w' hS => ?ya10) ?ka10
        case ya10 =>
          obtain ⟨h1, h2, h3, h4⟩ := hS
          go_simp
          try rfl
        case ka10 =>
        go_simp
        refine wpLoad_step ?va11 rfl (fun w' hS => ?ya11) ?ka11
        case ya11 =>
          obtain ⟨h1, h2, h3, h4⟩ := hS
          go_simp
          try rfl
        case ka11 =>
        go_simp
        refine wpLoad_nil ?_
        refine wpKeep_step rfl ?_
        go_simp
        refine CL1.out.mono ?_
        rintro e w3 ⟨u1, v1, rfl, hT1, hb3⟩
        obtain ⟨u1, v1, rfl, rfl⟩ := hT1.shape
        have hb3 : Below wr.heap.size wr w3 := ((Below.refl _ _).drew).trans hb3
        have kp3 : ∀ p : Addr, p.block = g → w3.cell? p = wr.cell? p := fun p hp => hb3.cell (by rw [hp]; exact gl)
        have f0 := (kp3 _ HSB0.out).trans e0
        have f1 := (kp3 ⟨(ad.add (k * 4)).block, (ad.add (k * 4)).off + 1, none⟩ HSB0.out).trans e1
        have f2 := (kp3 ⟨(ad.add (k * 4)).block, (ad.add (k * 4)).off + 2, none⟩ HSB0.out).trans e2
        have f3 := (kp3 ⟨(ad.add (k * 4)).block, (ad.add (k * 4)).off + 2 + 1, none⟩ HSB0.out).trans e3
        refine ⟨⟨f0, f1, f2, f3⟩, ?_⟩
        have hEq3 := HEQ.out.2.keep (w' := w3) (fun p hp => hb3.cell hp.2.1)
        have CL2 := Lib.hid (clean_any x.2 _ _ w3 (hEq3.more fun _ h => Nat.lt_of_lt_of_le h.2.1 hb3.size))
        have HT1 : Hid (TyIs w3 (FrP w3 wr.heap.size) (cleanT x.1) (sv u1) (.slice v1.1 v1.2.1 v1.2.2)) := Lib.hid hT1
        have HB3 := Lib.hid hb3
        have hsz3 := hb3.size
        clear hT1 hb3 hEq3 kp3
        refine wpKeep_step rfl ?_
        go_simp
        refine CL2.out.mono ?_
        rintro e w4 ⟨u2, v2, rfl, hT2, hb4⟩
        obtain ⟨u2, v2, rfl, rfl⟩ := hT2.shape
        have HT12 := Lib.hid (HT1.out.plainNow hb4)
        have hb4w := HB3.out.trans (hb4.mono hsz3)
        have kp4 : ∀ p : Addr, p.block = g → w4.cell? p = wr.cell? p := fun p hp => hb4w.cell (by rw [hp]; exact gl)
        have f0 := (kp4 _ HSB0.out).trans e0
        have f1 := (kp4 ⟨(ad.add (k * 4)).block, (ad.add (k * 4)).off + 1, none⟩ HSB0.out).trans e1
        have f2 := (kp4 ⟨(ad.add (k * 4)).block, (ad.add (k * 4)).off + 2, none⟩ HSB0.out).trans e2
        have f3 := (kp4 ⟨(ad.add (k * 4)).block, (ad.add (k * 4)).off + 2 + 1, none⟩ HSB0.out).trans e3
        refine ⟨⟨f0, f1, f2, f3⟩, ?_⟩
        have hE4 := HE'.out.below hb4w
        have hown4 := hE4.own
        rw [HL'.out] at hown4
        have z0 : w4.frozen? (ad.add (k * 4)) = false := by rw [HADD.out]; exact hown4.frozenAt _
        have z1 : w4.frozen? ⟨(ad.add (k * 4)).block, (ad.add (k * 4)).off + 1, none⟩ = false := by rw [HADD.out]; exact hown4.frozenAt _
        have z2 : w4.frozen? ⟨(ad.add (k * 4)).block, (ad.add (k * 4)).off + 2, none⟩ = false := by rw [HADD.out]; exact hown4.frozenAt _
        have z3 : w4.frozen? ⟨(ad.add (k * 4)).block, (ad.add (k * 4)).off + 2 + 1, none⟩ = false := by rw [HADD.out]; exact hown4.frozenAt _
        have HPUT : Hid (EqAt lo (k + 1) (E'.set k (cleanT x.1, cleanT x.2)) (.slice (some ⟨g, 0, none⟩) n lc) (vs'.set k ((sv u1, .slice v1.1 v1.2.1 v1.2.2), (sv u2, .slice v2.1 v2.2.1 v2.2.2))) ((((w4.setCell ⟨g, k * 4, none⟩ (sv u1)).setCell ⟨g, k * 4 + 1, none⟩ (.slice v1.1 v1.2.1 v1.2.2)).setCell ⟨g, k * 4 + 2, none⟩ (sv u2)).setCell ⟨g, k * 4 + 3, none⟩ (.slice v2.1 v2.2.1 v2.2.2))) := Lib.hid (by
          have h4 := hE4
          rw [← HL'.out] at h4 ⊢
          refine h4.put (x := (cleanT x.1, cleanT x.2)) (p := ((sv u1, .slice v1.1 v1.2.1 v1.2.2), (sv u2, .slice v2.1 v2.2.1 v2.2.2))) (by rw [HL'.out]; exact hlt) ⟨HT12.out.more fun y hy => ⟨?_, hy.2.1, ?_, hy.2.2⟩, hT2.more fun y hy => ⟨?_, hy.2.1, ?_, hy.2.2⟩⟩
          · have := hy.1; have := HB2.out.size; omega
          · have := hy.1; omega
          · have := hy.1; have := HB2.out.size; omega
          · have := hy.1; omega)
        have HB4 : Hid (Below w.heap.size w ((((w4.setCell ⟨g, k * 4, none⟩ (sv u1)).setCell ⟨g, k * 4 + 1, none⟩ (.slice v1.1 v1.2.1 v1.2.2)).setCell ⟨g, k * 4 + 2, none⟩ (sv u2)).setCell ⟨g, k * 4 + 3, none⟩ (.slice v2.1 v2.2.1 v2.2.2))) := Lib.hid ((((hb.trans (hb4w.mono hsz)).setCell (by dsimp only; omega) _).setCell (by dsimp only; omega) _ |>.setCell (by dsimp only; omega) _).setCell (by dsimp only; omega) _)
        clear hT2 hb4 hb4w kp4 hE4 hown4 e0 e1 e2 e3
        refine wpKeep_nil ?_
        rw [HADD.out] at f0 f1 f2 f3 z0 z1 z2 z3
        simp only [HADD.out]
        dsimp only at f0 f1 f2 f3 z0 z1 z2 z3
        have hadd := HADD.out
        go_wp2
        refine NoPanic.normal ?_
        go_wp2
        go_roundw
        case rel =>
          refine ⟨k + 1, E'.set k (cleanT x.1, cleanT x.2), vs'.set k ((sv u1, .slice v1.1 v1.2.1 v1.2.2), (sv u2, .slice v2.1 v2.2.1 v2.2.2)), by omega, by go_num, ?_, by simpa using HL'.out, fun j y hy => ?_, ?_⟩
          · have := HPUT.out
            rw [← HAD.out] at this
            exact this
          · by_cases hj : k = j
            · subst hj
              rw [List.getElem?_set_self (by rw [HL'.out]; exact hlt)] at hy
              obtain rfl := Option.some.inj hy
              obtain ⟨⟨d1, hd1, hx1⟩, d2, hd2, hx2⟩ := HDQ.out
              have c1 := clean_cty hx1
              have c2 := clean_cty hx2
              have s1 := hx1.size
              have s2 := hx2.size
              have p1 : 2 ^ d1 ≤ 2 ^ 2 := Nat.pow_le_pow_right (by omega) hd1
              have p2 : 2 ^ d2 ≤ 2 ^ 2 := Nat.pow_le_pow_right (by omega) hd2
              exact ⟨fun _ => ⟨c1.1, c2.1, by rw [c1.2]; omega, by rw [c2.2]; omega⟩, fun h => absurd h (by omega)⟩
            · rw [List.getElem?_set_ne hj] at hy
              have := HQ'.out j y hy
              exact ⟨fun h => this.1 (by omega), fun h => this.2 (by omega)⟩
          · exact HB4.out
        case measure => simp [intOf]; omega
    · obtain rfl : k = n := by omega
      have hC : ∀ x ∈ E', CEq x := fun x hx => by
        obtain ⟨j, hj⟩ := List.mem_iff_getElem?.1 hx
        have := (List.getElem?_eq_some_iff.1 hj).1
        exact (hq' j x hj).1 (by omega)
      have HEA : Hid (EqAt lo k E' (.slice LA k lc) vs' wr) := Lib.hid hE'
      have HL' := Lib.hid hl'
      have HC := Lib.hid hC
      have HBR := Lib.hid hb
      clear hE' hl' hq' hC hb HE HQ HNE HLA HB2
      have hrow := HEA.out.row HL'.out
      have SOL := Lib.hid (csolve_any E' LA lc vs' wr hrow HC.out (by rw [HL'.out]; omega))
      have HROW := Lib.hid hrow
      rw [HL'.out] at SOL
      clear hrow
      go_wp2_with fail
      refine SOL.out.mono ?_
      rintro e w5 ⟨rs, G, SA, DA, sc, dc, svs, rfl, hch, hTs, hsc1, hsc2, hDr, hb5, hGQ, hsnd⟩
      obtain ⟨ρ, hrk⟩ := hch.rank
      have hsol : solv (solL G) = solOf G := solv_solL fun g hg => cty_down.full _ (hGQ g hg).1
      obtain ⟨θ, hθ⟩ := appl_ex hrk
      have hsl : (solL G).length = solLen G := by simp [solL]
      have hs100 := solLen_100 fun g hg => (hGQ g hg).2
      have hqs : ∀ m u, solv (solL G) m = some u → CTy u := fun m u h => by
        rw [hsol] at h
        obtain ⟨q, hq⟩ := find_mem h
        exact (hGQ _ hq).1
      have hrl : rs.length = k := by rw [hch.len, HL'.out]
      have hcl : cty_down.toDown = cty_down.toDown := rfl
      clear hcl
      obtain ⟨sl, hsle⟩ : ∃ sl, sl = solLen G := ⟨_, rfl⟩
      obtain ⟨dl, hdle⟩ : ∃ dl, dl = (drops rs 0).length := ⟨_, rfl⟩
      have hdlk : dl ≤ k := by have := drops_len rs 0; omega
      have HSL : Hid ((solL G).length = sl) := Lib.hid (by rw [hsl, hsle])
      have HDL := Lib.hid hdle
      rw [← hsle, ← hdle]
      rw [← hsle] at hs100
      have HRL := Lib.hid hrl
      have HTS := Lib.hid hTs
      have HDR := Lib.hid hDr
      have HSND := Lib.hid (hsnd cty_clean)
      have HTH : Hid (Appl (solv (solL G)) θ) := Lib.hid (by rw [hsol]; exact hθ)
      have HSAT : Hid (Sat θ (solOf G)) := Lib.hid hθ.sat
      have HRK : Hid (Rank (solv (solL G)) ρ) := Lib.hid (by rw [hsol]; exact hrk)
      have HQS := Lib.hid hqs
      have HB5 := Lib.hid (HBR.out.trans (hb5.mono HBR.out.size))
      have HB5r := Lib.hid hb5
      have hsz5 := hb5.size
      clear hsle hdle hsl hsol hrl hTs hDr hsnd hθ hrk hqs hb5 hGQ hch SOL
      go_wp2_with fail
      go_loopw [8, 9] (fun kv iv wr => ∃ i : Nat, i ≤ k ∧ iv = .int .i64 (i : Int) ∧ kv = .int .i64 (((drops (rs.take i) 0).length : Nat) : Int) ∧ Below w5.heap.size w5 wr) (fun _ iv _ => k - (intOf iv).toNat)
      case atStart => exact ⟨0, Nat.zero_le _, rfl, by simp [drops], Below.refl _ _⟩
      case round =>
        obtain ⟨i, hi, rfl, rfl, hbl⟩ := hrel
        obtain ⟨q, hq⟩ : ∃ q, q = (drops (rs.take i) 0).length := ⟨_, rfl⟩
        rw [← hq]
        have hql : q ≤ dl := by
          rw [hq, HDL.out, drops_split rs i 0, List.length_append]
          omega
        by_cases hlt : i < k
        · have hir : i < rs.length := by rw [HRL.out]; exact hlt
          have hri : rs[i]? = some rs[i] := List.getElem?_eq_getElem hir
          have hiE : i < E'.length := by rw [HL'.out]; exact hlt
          obtain ⟨x, hx⟩ : ∃ x, E'[i]? = some x := ⟨_, List.getElem?_eq_getElem hiE⟩
          have HX := Lib.hid hx
          have HIK : Hid (0 ≤ i ∧ i < k) := Lib.hid ⟨by omega, hlt⟩
          cases hrr : rs[i] with
          | false =>
            rw [hrr] at hri
            obtain ⟨d1, d2⟩ := drops_no hri
            rw [← hq] at d1 d2
            have hql2 : q < dl := by rw [HDL.out]; exact (List.getElem?_eq_some_iff.1 d1).1
            have d3 : ((drops rs 0).map fun m : Nat => Value.int .i64 (m : Int))[q]? = some (.int .i64 (i : Int)) := by rw [List.getElem?_map, d1]; rfl
            obtain ⟨ad, rfl, hS, e0⟩ := (HDR.out.keep ((kept_below hbl).sub fun y hy => hy.2)).at_ d3
            have HD2 := Lib.hid d2
            have HQ := Lib.hid hq
            have hqi : (0 : Int) ≤ (q : Int) ∧ (q : Int) < (dl : Int) := ⟨by omega, by omega⟩
            have hq0 : decide ((q : Int) < (dl : Int)) = true := by simpa using hql2
            have hee : ((i : Int) == (i : Int)) = true := by simp
            clear d1 d2 d3 hri hrr hq hx
            go_wp2
            go_roundw
            case rel => exact ⟨i + 1, by omega, by go_num, by rw [HD2.out]; go_num, hbl⟩
            case measure => simp [intOf]; omega
          | true =>
            rw [hrr] at hri
            obtain ⟨d1, d2⟩ := drops_yes hri
            rw [← hq] at d1 d2
            have hsn := HSND.out i x hx hri θ HSAT.out
            have HSN := Lib.hid hsn
            have HD2 := Lib.hid d2
            have HQ := Lib.hid hq
            have hC := HC.out x (List.mem_of_getElem? hx)
            have hw5 := HROW.out.below (HB5r.out)
            obtain ⟨ad, n1, n2, a1, a2, rfl, hS, e0, e1, e2, e3, hEq, _, _⟩ := (hw5.below hbl).at_ hx
            have hTS := (HTS.out.keep ((kept_below hbl).sub fun y hy => hy.2)).more (S' := Lt wr.heap.size) fun y hy => Nat.lt_of_lt_of_le hy.2 hbl.size
            have NA := Lib.hid (tnodes_any (solL G) CTy cty_down.toDown HQS.out ρ HRK.out θ HTH.out SA sc svs x.1 _ _ wr hTS (hEq.1.more fun y hy => hy.1) (by rw [HSL.out]; omega) hC.1)
            rw [HSL.out] at NA
            have HEQ := Lib.hid hEq
            have HTSl := Lib.hid hTS
            have HCC := Lib.hid hC
            obtain ⟨ca, hca⟩ : ∃ ca, ca = capS (sub θ x.1).size := ⟨_, rfl⟩
            rw [← hca] at NA
            have HCA := Lib.hid hca
            have hik : (0 : Int) ≤ (i : Int) ∧ (i : Int) < (k : Int) := ⟨by omega, by omega⟩
            have hszl := hbl.size
            have step : ∀ (b1 : Bool), True := fun _ => trivial
            clear step hca hEq hTS hC hsn d2 hq hri hrr hx hw5
            -- whether one has been dropped
            have HT : q = dl ∨ (q < dl ∧ ∃ j : Nat, (drops rs 0)[q]? = some j ∧ j ≠ i) := by
              rcases Nat.lt_or_ge q dl with h | h
              · right
                have h' : q < (drops rs 0).length := by rw [← HDL.out]; exact h
                exact ⟨h, _, List.getElem?_eq_getElem h', d1 _ (List.getElem?_eq_getElem h')⟩
              · left; omega
            clear d1
            rcases HT with HT | ⟨hq1, j, hj, hne⟩
            · have hq0 : decide ((q : Int) < (dl : Int)) = false := by simp; omega
              have hq0' : dl ≤ q := by omega
              clear HT
              go_wp2_with fail
              refine NA.out.mono ?_
              rintro e w6 ⟨rfl, hb6⟩
              have e0 := (hb6.cell (p := ad.add (i * 4)) (by rw [blkAdd]; exact hS)).trans e0
              have e1 := (hb6.cell (p := ⟨(ad.add (i * 4)).block, (ad.add (i * 4)).off + 1, none⟩) (by rw [blkAdd]; exact hS)).trans e1
              have e2 := (hb6.cell (p := ⟨(ad.add (i * 4)).block, (ad.add (i * 4)).off + 2, none⟩) (by rw [blkAdd]; exact hS)).trans e2
              have e3 := (hb6.cell (p := ⟨(ad.add (i * 4)).block, (ad.add (i * 4)).off + 2 + 1, none⟩) (by rw [blkAdd]; exact hS)).trans e3
              have HEQ6 : Hid (EqIs w6 (Lt w6.heap.size) x ((sv n1, .slice a1.1 a1.2.1 a1.2.2), (sv n2, .slice a2.1 a2.2.1 a2.2.2))) := Lib.hid ((HEQ.out.keep ((kept_below hb6).sub fun y hy => hy.1)).more fun y hy => Nat.lt_of_lt_of_le hy.1 hb6.size)
              have HTS6 := Lib.hid ((HTSl.out.keep (kept_below hb6)).more (S' := Lt w6.heap.size) fun y hy => Nat.lt_of_lt_of_le hy hb6.size)
              have HB56 := Lib.hid (hbl.trans (hb6.mono hszl))
              have hsz6 := hb6.size
              clear hb6
              by_cases hga : ca > 200
              · have hg1 : decide ((ca : Int) > 200) = true := by simp; omega
                go_wp2
                go_roundw
                case rel => exact ⟨i + 1, by omega, by go_num, by rw [HD2.out], HB56.out⟩
                case measure => simp [intOf]; omega
              · have hg1 : decide ((ca : Int) > 200) = false := by simp; omega
                have NB := Lib.hid (tnodes_any (solL G) CTy cty_down.toDown HQS.out ρ HRK.out θ HTH.out SA sc svs x.2 _ _ w6 HTS6.out HEQ6.out.2 (by rw [HSL.out]; omega) HCC.out.2.1)
                rw [HSL.out] at NB
                obtain ⟨cb, hcb⟩ : ∃ cb, cb = capS (sub θ x.2).size := ⟨_, rfl⟩
                rw [← hcb] at NB
                have HCB := Lib.hid hcb
                clear hcb
                go_wp2_with fail
                refine NB.out.mono ?_
                rintro e w7 ⟨rfl, hb7⟩
                have e0 := (hb7.cell (p := ad.add (i * 4)) (by rw [blkAdd]; exact Nat.lt_of_lt_of_le hS hsz6)).trans e0
                have e1 := (hb7.cell (p := ⟨(ad.add (i * 4)).block, (ad.add (i * 4)).off + 1, none⟩) (by rw [blkAdd]; exact Nat.lt_of_lt_of_le hS hsz6)).trans e1
                have e2 := (hb7.cell (p := ⟨(ad.add (i * 4)).block, (ad.add (i * 4)).off + 2, none⟩) (by rw [blkAdd]; exact Nat.lt_of_lt_of_le hS hsz6)).trans e2
                have e3 := (hb7.cell (p := ⟨(ad.add (i * 4)).block, (ad.add (i * 4)).off + 2 + 1, none⟩) (by rw [blkAdd]; exact Nat.lt_of_lt_of_le hS hsz6)).trans e3
                have HEQ7 : Hid (EqIs w7 (Lt w7.heap.size) x ((sv n1, .slice a1.1 a1.2.1 a1.2.2), (sv n2, .slice a2.1 a2.2.1 a2.2.2))) := Lib.hid ((HEQ6.out.keep (kept_below hb7)).more fun y hy => Nat.lt_of_lt_of_le hy hb7.size)
                have HTS7 := Lib.hid ((HTS6.out.keep (kept_below hb7)).more (S' := Lt w7.heap.size) fun y hy => Nat.lt_of_lt_of_le hy hb7.size)
                have HB57 := Lib.hid (HB56.out.trans (hb7.mono HB56.out.size))
                have hsz7 := hb7.size
                clear hb7
                by_cases hgb : cb > 200
                · have hg2 : decide ((cb : Int) > 200) = true := by simp; omega
                  go_wp2
                  go_roundw
                  case rel => exact ⟨i + 1, by omega, by go_num, by rw [HD2.out], HB57.out⟩
                  case measure => simp [intOf]; omega
                · have hg2 : decide ((cb : Int) > 200) = false := by simp; omega
                  have HAA := Lib.hid (appT_small (θ := θ) (t := x.1) (by rw [← HCA.out]; exact hga))
                  have HAB := Lib.hid (appT_small (θ := θ) (t := x.2) (by rw [← HCB.out]; exact hgb))
                  have AA := Lib.hid (tapply_any (solL G) CTy cty_down.toDown HQS.out ρ HRK.out θ HTH.out SA sc svs x.1 (sv n1) (.slice a1.1 a1.2.1 a1.2.2) w7.drew ((Tys.keep (w' := w7.drew) HTS7.out fun _ _ => rfl)) (TyIs.keep (w' := w7.drew) HEQ7.out.1 fun _ _ => rfl) (by rw [HSL.out]; omega) HCC.out.1)
                  rw [HSL.out] at AA
                  go_wp2_with fail
                  refine wp_region_held' (fun w' => w'.cell? (ad.add (i * 4)) = some (sv n1) ∧ w'.cell? ⟨(ad.add (i * 4)).block, (ad.add (i * 4)).off + 1, none⟩ = some (.slice a1.1 a1.2.1 a1.2.2) ∧ w'.cell? ⟨(ad.add (i * 4)).block, (ad.add (i * 4)).off + 2, none⟩ = some (sv n2) ∧ w'.cell? ⟨(ad.add (i * 4)).block, (ad.add (i * 4)).off + 2 + 1, none⟩ = some (.slice a2.1 a2.2.1 a2.2.2)) [] [0, 1, 2, 3, 4, 5, 7, 8, 9, 10, 11, 12] [6, 13, 14] [15] (by kernel_rfl) (by kernel_rfl) ?s1 ?h1
                  case s1 => exact ⟨e0, e1, e2, e3⟩
                  case h1 =>
                    simp only [opsAt, List.filterMap_cons, List.filterMap_nil, List.getElem?_toArray, List.getElem?_cons_succ, List.getElem?_cons_zero]
                    refine wpFloat_nil ?_
                    refine wpLoad_step ?vl10 rfl (fun w' hS => ?yl10) ?kl10
                    case yl10 =>
                      obtain ⟨h1, h2, h3, h4⟩ := hS
                      go_simp
                      try rfl
                    case kl10 =>
                    go_simp
                    refine wpLoad_step ?vl11 rfl (fun w' hS => ?yl11) ?kl11
                    case yl11 =>
                      obtain ⟨h1, h2, h3, h4⟩ := hS
                      go_simp
                      try rfl
                    case kl11 =>
                    go_simp
                    refine wpLoad_step ?vl12 rfl (fun w' hS => ?yl12) ?kl12
                    case yl12 =>
                      obtain ⟨h1, h2, h3, h4⟩ := hS
                      go_simp
                      try rfl
                    case kl12 =>
                    go_simp
                    refine wpLoad_step ?vl13 rfl (fun w' hS => ?yl13) ?kl13
                    case yl13 =>
                      obtain ⟨h1, h2, h3, h4⟩ := hS
                      go_simp
                      try rfl
                    case kl13 =>
                    go_simp
                    refine wpLoad_step ?vl14 rfl (fun w' hS => ?yl14) ?kl14
                    case yl14 =>
                      obtain ⟨h1, h2, h3, h4⟩ := hS
                      go_simp
                      try rfl
                    case kl14 =>
                    go_simp
                    refine wpLoad_step ?vl15 rfl (fun w' hS => ?yl15) ?kl15
                    case yl15 =>
                      obtain ⟨h1, h2, h3, h4⟩ := hS
                      go_simp
                      try rfl
                    case kl15 =>
                    go_simp
                    refine wpLoad_step ?vl16 rfl (fun w' hS => ?yl16) ?kl16
                    case yl16 =>
                      obtain ⟨h1, h2, h3, h4⟩ := hS
                      go_simp
                      try rfl
                    case kl16 =>
                    go_simp
                    refine wpLoad_step ?vl17 rfl (fun w' hS => ?yl17) ?kl17
                    case yl17 =>
                      obtain ⟨h1, h2, h3, h4⟩ := hS
                      go_simp
                      try rfl
                    case kl17 =>
                    go_simp
                    refine wpLoad_step ?vl18 rfl (fun w' hS => ?yl18) ?kl18
                    case yl18 =>
                      obtain ⟨h1, h2, h3, h4⟩ := hS
                      go_simp
                      try rfl
                    case kl18 =>
                    go_simp
                    refine wpLoad_step ?vl19 rfl (fun w' hS => ?yl19) ?kl19
                    case yl19 =>
                      obtain ⟨h1, h2, h3, h4⟩ := hS
                      go_simp
                      try rfl
                    case kl19 =>
                    go_simp
                    refine wpLoad_step ?vl110 rfl (fun w' hS => ?yl110) ?kl110
                    case yl110 =>
                      obtain ⟨h1, h2, h3, h4⟩ := hS
                      go_simp
                      try rfl
                    case kl110 =>
                    go_simp
                    refine wpLoad_step ?vl111 rfl (fun w' hS => ?yl111) ?kl111
                    case yl111 =>
                      obtain ⟨h1, h2, h3, h4⟩ := hS
                      go_simp
                      try rfl
                    case kl111 =>
                    go_simp
                    refine wpLoad_nil ?_
                    have cl : ad.block < w7.heap.size := Nat.lt_of_lt_of_le hS (Nat.le_trans hsz6 hsz7)
                    have HS7 : Hid (∀ w', Below w7.heap.size w7 w' → w'.cell? (ad.add (i * 4)) = some (sv n1) ∧ w'.cell? ⟨(ad.add (i * 4)).block, (ad.add (i * 4)).off + 1, none⟩ = some (.slice a1.1 a1.2.1 a1.2.2) ∧ w'.cell? ⟨(ad.add (i * 4)).block, (ad.add (i * 4)).off + 2, none⟩ = some (sv n2) ∧ w'.cell? ⟨(ad.add (i * 4)).block, (ad.add (i * 4)).off + 2 + 1, none⟩ = some (.slice a2.1 a2.2.1 a2.2.2)) := Lib.hid fun w' hb => ⟨(hb.cell (p := ad.add (i * 4)) (by rw [blkAdd]; exact cl)).trans e0, (hb.cell (p := ⟨(ad.add (i * 4)).block, (ad.add (i * 4)).off + 1, none⟩) (by rw [blkAdd]; exact cl)).trans e1, (hb.cell (p := ⟨(ad.add (i * 4)).block, (ad.add (i * 4)).off + 2, none⟩) (by rw [blkAdd]; exact cl)).trans e2, (hb.cell (p := ⟨(ad.add (i * 4)).block, (ad.add (i * 4)).off + 2 + 1, none⟩) (by rw [blkAdd]; exact cl)).trans e3⟩
                    refine wpKeep_step rfl ?_
                    go_simp
                    refine AA.out.mono ?_
                    rintro e w8 ⟨u1, v1, rfl, hT1, hb8⟩
                    obtain ⟨u1, v1, rfl, rfl⟩ := hT1.shape
                    have hb8 : Below w7.heap.size w7 w8 := ((Below.refl _ _).drew).trans hb8
                    refine ⟨HS7.out _ hb8, ?_⟩
                    have AB := Lib.hid (tapply_any (solL G) CTy cty_down.toDown HQS.out ρ HRK.out θ HTH.out SA sc svs x.2 (sv n2) (.slice a2.1 a2.2.1 a2.2.2) w8 ((HTS7.out.keep (kept_below hb8)).more fun y hy => Nat.lt_of_lt_of_le hy hb8.size) ((HEQ7.out.2.keep (kept_below hb8)).more fun y hy => Nat.lt_of_lt_of_le hy hb8.size) (by rw [HSL.out]; omega) HCC.out.2.1)
                    rw [HSL.out] at AB
                    have HT1 : Hid (TyIs w8 (Lt w8.heap.size) (sub θ x.1) (sv u1) (.slice v1.1 v1.2.1 v1.2.2)) := Lib.hid (by
                      have := hT1.more (S' := Lt w8.heap.size) fun y hy => hy.2
                      rw [HAA.out] at this
                      exact this)
                    have HB8 := Lib.hid hb8
                    clear hT1 hb8 AA
                    refine wpKeep_step rfl ?_
                    go_simp
                    refine AB.out.mono ?_
                    rintro e w9 ⟨u2, v2, rfl, hT2, hb9⟩
                    obtain ⟨u2, v2, rfl, rfl⟩ := hT2.shape
                    have hb79 := HB8.out.trans (hb9.mono HB8.out.size)
                    refine ⟨HS7.out _ hb79, ?_⟩
                    have hT2' : TyIs w9 (Lt w9.heap.size) (sub θ x.1) (sv u2) (.slice v2.1 v2.2.1 v2.2.2) := by
                      have := hT2.more (S' := Lt w9.heap.size) fun y hy => hy.2
                      rw [HAB.out, ← HSN.out] at this
                      exact this
                    have SM := Lib.hid (refSame_any (sub θ x.1) (sub θ x.1) _ _ _ _ w9 ((HT1.out.keep (kept_below hb9)).more fun y hy => Nat.lt_of_lt_of_le hy hb9.size) hT2')
                    have HB79 := Lib.hid hb79
                    clear hT2 hb9 AB hT2' hb79
                    refine wpKeep_step rfl ?_
                    go_simp
                    refine SM.out.mono ?_
                    rintro e w10 ⟨r, rfl, hr, hb10⟩
                    obtain rfl : r = true := hr.2 rfl
                    have hb710 := HB79.out.trans (hb10.mono HB79.out.size)
                    refine ⟨HS7.out _ hb710, ?_⟩
                    have HBF := Lib.hid (HB57.out.trans (hb710.mono HB57.out.size))
                    clear hb710 hb10 hr e0 e1 e2 e3
                    refine wpKeep_nil ?_
                    go_wp2
                    refine NoPanic.normal ?_
                    go_wp2
                    go_roundw
                    case rel => exact ⟨i + 1, by omega, by go_num, by rw [HD2.out], HBF.out⟩
                    case measure => simp [intOf]; omega
            · have hq0 : decide ((q : Int) < (dl : Int)) = true := by simpa using hq1
              have hqi : (0 : Int) ≤ (q : Int) ∧ (q : Int) < (dl : Int) := ⟨by omega, by omega⟩
              have d3 : ((drops rs 0).map fun m : Nat => Value.int .i64 (m : Int))[q]? = some (.int .i64 (j : Int)) := by rw [List.getElem?_map, hj]; rfl
              obtain ⟨dd, rfl, _, g0⟩ := (HDR.out.keep ((kept_below hbl).sub fun y hy => hy.2)).at_ d3
              have hje : ((j : Int) == (i : Int)) = false := by simp; omega
              clear d3 hj
              go_wp2_with fail
              refine NA.out.mono ?_
              rintro e w6 ⟨rfl, hb6⟩
              have e0 := (hb6.cell (p := ad.add (i * 4)) (by rw [blkAdd]; exact hS)).trans e0
              have e1 := (hb6.cell (p := ⟨(ad.add (i * 4)).block, (ad.add (i * 4)).off + 1, none⟩) (by rw [blkAdd]; exact hS)).trans e1
              have e2 := (hb6.cell (p := ⟨(ad.add (i * 4)).block, (ad.add (i * 4)).off + 2, none⟩) (by rw [blkAdd]; exact hS)).trans e2
              have e3 := (hb6.cell (p := ⟨(ad.add (i * 4)).block, (ad.add (i * 4)).off + 2 + 1, none⟩) (by rw [blkAdd]; exact hS)).trans e3
              have HEQ6 : Hid (EqIs w6 (Lt w6.heap.size) x ((sv n1, .slice a1.1 a1.2.1 a1.2.2), (sv n2, .slice a2.1 a2.2.1 a2.2.2))) := Lib.hid ((HEQ.out.keep ((kept_below hb6).sub fun y hy => hy.1)).more fun y hy => Nat.lt_of_lt_of_le hy.1 hb6.size)
              have HTS6 := Lib.hid ((HTSl.out.keep (kept_below hb6)).more (S' := Lt w6.heap.size) fun y hy => Nat.lt_of_lt_of_le hy hb6.size)
              have HB56 := Lib.hid (hbl.trans (hb6.mono hszl))
              have hsz6 := hb6.size
              clear hb6
              by_cases hga : ca > 200
              · have hg1 : decide ((ca : Int) > 200) = true := by simp; omega
                go_wp2
                go_roundw
                case rel => exact ⟨i + 1, by omega, by go_num, by rw [HD2.out], HB56.out⟩
                case measure => simp [intOf]; omega
              · have hg1 : decide ((ca : Int) > 200) = false := by simp; omega
                have NB := Lib.hid (tnodes_any (solL G) CTy cty_down.toDown HQS.out ρ HRK.out θ HTH.out SA sc svs x.2 _ _ w6 HTS6.out HEQ6.out.2 (by rw [HSL.out]; omega) HCC.out.2.1)
                rw [HSL.out] at NB
                obtain ⟨cb, hcb⟩ : ∃ cb, cb = capS (sub θ x.2).size := ⟨_, rfl⟩
                rw [← hcb] at NB
                have HCB := Lib.hid hcb
                clear hcb
                go_wp2_with fail
                refine NB.out.mono ?_
                rintro e w7 ⟨rfl, hb7⟩
                have e0 := (hb7.cell (p := ad.add (i * 4)) (by rw [blkAdd]; exact Nat.lt_of_lt_of_le hS hsz6)).trans e0
                have e1 := (hb7.cell (p := ⟨(ad.add (i * 4)).block, (ad.add (i * 4)).off + 1, none⟩) (by rw [blkAdd]; exact Nat.lt_of_lt_of_le hS hsz6)).trans e1
                have e2 := (hb7.cell (p := ⟨(ad.add (i * 4)).block, (ad.add (i * 4)).off + 2, none⟩) (by rw [blkAdd]; exact Nat.lt_of_lt_of_le hS hsz6)).trans e2
                have e3 := (hb7.cell (p := ⟨(ad.add (i * 4)).block, (ad.add (i * 4)).off + 2 + 1, none⟩) (by rw [blkAdd]; exact Nat.lt_of_lt_of_le hS hsz6)).trans e3
                have HEQ7 : Hid (EqIs w7 (Lt w7.heap.size) x ((sv n1, .slice a1.1 a1.2.1 a1.2.2), (sv n2, .slice a2.1 a2.2.1 a2.2.2))) := Lib.hid ((HEQ6.out.keep (kept_below hb7)).more fun y hy => Nat.lt_of_lt_of_le hy hb7.size)
                have HTS7 := Lib.hid ((HTS6.out.keep (kept_below hb7)).more (S' := Lt w7.heap.size) fun y hy => Nat.lt_of_lt_of_le hy hb7.size)
                have HB57 := Lib.hid (HB56.out.trans (hb7.mono HB56.out.size))
                have hsz7 := hb7.size
                clear hb7
                by_cases hgb : cb > 200
                · have hg2 : decide ((cb : Int) > 200) = true := by simp; omega
                  go_wp2
                  go_roundw
                  case rel => exact ⟨i + 1, by omega, by go_num, by rw [HD2.out], HB57.out⟩
                  case measure => simp [intOf]; omega
                · have hg2 : decide ((cb : Int) > 200) = false := by simp; omega
                  have HAA := Lib.hid (appT_small (θ := θ) (t := x.1) (by rw [← HCA.out]; exact hga))
                  have HAB := Lib.hid (appT_small (θ := θ) (t := x.2) (by rw [← HCB.out]; exact hgb))
                  have AA := Lib.hid (tapply_any (solL G) CTy cty_down.toDown HQS.out ρ HRK.out θ HTH.out SA sc svs x.1 (sv n1) (.slice a1.1 a1.2.1 a1.2.2) w7.drew ((Tys.keep (w' := w7.drew) HTS7.out fun _ _ => rfl)) (TyIs.keep (w' := w7.drew) HEQ7.out.1 fun _ _ => rfl) (by rw [HSL.out]; omega) HCC.out.1)
                  rw [HSL.out] at AA
                  go_wp2_with fail
                  refine wp_region_held' (fun w' => w'.cell? (ad.add (i * 4)) = some (sv n1) ∧ w'.cell? ⟨(ad.add (i * 4)).block, (ad.add (i * 4)).off + 1, none⟩ = some (.slice a1.1 a1.2.1 a1.2.2) ∧ w'.cell? ⟨(ad.add (i * 4)).block, (ad.add (i * 4)).off + 2, none⟩ = some (sv n2) ∧ w'.cell? ⟨(ad.add (i * 4)).block, (ad.add (i * 4)).off + 2 + 1, none⟩ = some (.slice a2.1 a2.2.1 a2.2.2)) [] [0, 1, 2, 3, 4, 5, 7, 8, 9, 10, 11, 12] [6, 13, 14] [15] (by kernel_rfl) (by kernel_rfl) ?s2 ?h2
                  case s2 => exact ⟨e0, e1, e2, e3⟩
                  case h2 =>
                    simp only [opsAt, List.filterMap_cons, List.filterMap_nil, List.getElem?_toArray, List.getElem?_cons_succ, List.getElem?_cons_zero]
                    refine wpFloat_nil ?_
                    refine wpLoad_step ?vl20 rfl (fun w' hS => ?yl20) ?kl20
                    case yl20 =>
                      obtain ⟨h1, h2, h3, h4⟩ := hS
                      go_simp
                      try rfl
                    case kl20 =>
                    go_simp
                    refine wpLoad_step ?vl21 rfl (fun w' hS => ?yl21) ?kl21
                    case yl21 =>
                      obtain ⟨h1, h2, h3, h4⟩ := hS
                      go_simp
                      try rfl
                    case kl21 =>
                    go_simp
                    refine wpLoad_step ?vl22 rfl (fun w' hS => ?yl22) ?kl22
                    case yl22 =>
                      obtain ⟨h1, h2, h3, h4⟩ := hS
                      go_simp
                      try rfl
                    case kl22 =>
                    go_simp
                    refine wpLoad_step ?vl23 rfl (fun w' hS => ?yl23) ?kl23
                    case yl23 =>
                      obtain ⟨h1, h2, h3, h4⟩ := hS
                      go_simp
                      try rfl
                    case kl23 =>
                    go_simp
                    refine wpLoad_step ?vl24 rfl (fun w' hS => ?yl24) ?kl24
                    case yl24 =>
                      obtain ⟨h1, h2, h3, h4⟩ := hS
                      go_simp
                      try rfl
                    case kl24 =>
                    go_simp
                    refine wpLoad_step ?vl25 rfl (fun w' hS => ?yl25) ?kl25
                    case yl25 =>
                      obtain ⟨h1, h2, h3, h4⟩ := hS
                      go_simp
                      try rfl
                    case kl25 =>
                    go_simp
                    refine wpLoad_step ?vl26 rfl (fun w' hS => ?yl26) ?kl26
                    case yl26 =>
                      obtain ⟨h1, h2, h3, h4⟩ := hS
                      go_simp
                      try rfl
                    case kl26 =>
                    go_simp
                    refine wpLoad_step ?vl27 rfl (fun w' hS => ?yl27) ?kl27
                    case yl27 =>
                      obtain ⟨h1, h2, h3, h4⟩ := hS
                      go_simp
                      try rfl
                    case kl27 =>
                    go_simp
                    refine wpLoad_step ?vl28 rfl (fun w' hS => ?yl28) ?kl28
                    case yl28 =>
                      obtain ⟨h1, h2, h3, h4⟩ := hS
                      go_simp
                      try rfl
                    case kl28 =>
                    go_simp
                    refine wpLoad_step ?vl29 rfl (fun w' hS => ?yl29) ?kl29
                    case yl29 =>
                      obtain ⟨h1, h2, h3, h4⟩ := hS
                      go_simp
                      try rfl
                    case kl29 =>
                    go_simp
                    refine wpLoad_step ?vl210 rfl (fun w' hS => ?yl210) ?kl210
                    case yl210 =>
                      obtain ⟨h1, h2, h3, h4⟩ := hS
                      go_simp
                      try rfl
                    case kl210 =>
                    go_simp
                    refine wpLoad_step ?vl211 rfl (fun w' hS => ?yl211) ?kl211
                    case yl211 =>
                      obtain ⟨h1, h2, h3, h4⟩ := hS
                      go_simp
                      try rfl
                    case kl211 =>
                    go_simp
                    refine wpLoad_nil ?_
                    have cl : ad.block < w7.heap.size := Nat.lt_of_lt_of_le hS (Nat.le_trans hsz6 hsz7)
                    have HS7 : Hid (∀ w', Below w7.heap.size w7 w' → w'.cell? (ad.add (i * 4)) = some (sv n1) ∧ w'.cell? ⟨(ad.add (i * 4)).block, (ad.add (i * 4)).off + 1, none⟩ = some (.slice a1.1 a1.2.1 a1.2.2) ∧ w'.cell? ⟨(ad.add (i * 4)).block, (ad.add (i * 4)).off + 2, none⟩ = some (sv n2) ∧ w'.cell? ⟨(ad.add (i * 4)).block, (ad.add (i * 4)).off + 2 + 1, none⟩ = some (.slice a2.1 a2.2.1 a2.2.2)) := Lib.hid fun w' hb => ⟨(hb.cell (p := ad.add (i * 4)) (by rw [blkAdd]; exact cl)).trans e0, (hb.cell (p := ⟨(ad.add (i * 4)).block, (ad.add (i * 4)).off + 1, none⟩) (by rw [blkAdd]; exact cl)).trans e1, (hb.cell (p := ⟨(ad.add (i * 4)).block, (ad.add (i * 4)).off + 2, none⟩) (by rw [blkAdd]; exact cl)).trans e2, (hb.cell (p := ⟨(ad.add (i * 4)).block, (ad.add (i * 4)).off + 2 + 1, none⟩) (by rw [blkAdd]; exact cl)).trans e3⟩
                    refine wpKeep_step rfl ?_
                    go_simp
                    refine AA.out.mono ?_
                    rintro e w8 ⟨u1, v1, rfl, hT1, hb8⟩
                    obtain ⟨u1, v1, rfl, rfl⟩ := hT1.shape
                    have hb8 : Below w7.heap.size w7 w8 := ((Below.refl _ _).drew).trans hb8
                    refine ⟨HS7.out _ hb8, ?_⟩
                    have AB := Lib.hid (tapply_any (solL G) CTy cty_down.toDown HQS.out ρ HRK.out θ HTH.out SA sc svs x.2 (sv n2) (.slice a2.1 a2.2.1 a2.2.2) w8 ((HTS7.out.keep (kept_below hb8)).more fun y hy => Nat.lt_of_lt_of_le hy hb8.size) ((HEQ7.out.2.keep (kept_below hb8)).more fun y hy => Nat.lt_of_lt_of_le hy hb8.size) (by rw [HSL.out]; omega) HCC.out.2.1)
                    rw [HSL.out] at AB
                    have HT1 : Hid (TyIs w8 (Lt w8.heap.size) (sub θ x.1) (sv u1) (.slice v1.1 v1.2.1 v1.2.2)) := Lib.hid (by
                      have := hT1.more (S' := Lt w8.heap.size) fun y hy => hy.2
                      rw [HAA.out] at this
                      exact this)
                    have HB8 := Lib.hid hb8
                    clear hT1 hb8 AA
                    refine wpKeep_step rfl ?_
                    go_simp
                    refine AB.out.mono ?_
                    rintro e w9 ⟨u2, v2, rfl, hT2, hb9⟩
                    obtain ⟨u2, v2, rfl, rfl⟩ := hT2.shape
                    have hb79 := HB8.out.trans (hb9.mono HB8.out.size)
                    refine ⟨HS7.out _ hb79, ?_⟩
                    have hT2' : TyIs w9 (Lt w9.heap.size) (sub θ x.1) (sv u2) (.slice v2.1 v2.2.1 v2.2.2) := by
                      have := hT2.more (S' := Lt w9.heap.size) fun y hy => hy.2
                      rw [HAB.out, ← HSN.out] at this
                      exact this
                    have SM := Lib.hid (refSame_any (sub θ x.1) (sub θ x.1) _ _ _ _ w9 ((HT1.out.keep (kept_below hb9)).more fun y hy => Nat.lt_of_lt_of_le hy hb9.size) hT2')
                    have HB79 := Lib.hid hb79
                    clear hT2 hb9 AB hT2' hb79
                    refine wpKeep_step rfl ?_
                    go_simp
                    refine SM.out.mono ?_
                    rintro e w10 ⟨r, rfl, hr, hb10⟩
                    obtain rfl : r = true := hr.2 rfl
                    have hb710 := HB79.out.trans (hb10.mono HB79.out.size)
                    refine ⟨HS7.out _ hb710, ?_⟩
                    have HBF := Lib.hid (HB57.out.trans (hb710.mono HB57.out.size))
                    clear hb710 hb10 hr e0 e1 e2 e3
                    refine wpKeep_nil ?_
                    go_wp2
                    refine NoPanic.normal ?_
                    go_wp2
                    go_roundw
                    case rel => exact ⟨i + 1, by omega, by go_num, by rw [HD2.out], HBF.out⟩
                    case measure => simp [intOf]; omega
        · obtain rfl : i = k := by omega
          have hqd : q = dl := by
            rw [hq, HDL.out, List.take_of_length_le (by rw [HRL.out]; exact Nat.le_refl _)]
          have hqd0 : ((q : Int) == (dl : Int)) = true := by simp [hqd]
          clear hqd hq hql
          go_wp2_with fail
          refine (awake_any wr).mono ?_
          rintro e w6 ⟨rfl, hb6⟩
          have HB6 := Lib.hid (HB5.out.trans ((hbl.trans (hb6.mono hbl.size)).mono HB5.out.size))
          clear hb6
          go_wp2
          refine bodyPost_ret (by first | (simp [results, go_sem]; done) | (simp [results, go_sem]; rfl)) rfl ?_
          exact ⟨rfl, HB6.out⟩
end Go.Proofs.YtndhglcdkegigaaDoor
