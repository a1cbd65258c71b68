/-
  Counting the nodes of a type with a solution: the walk of (*unify.Counter).Nodes.
  Conditions: names are good, all the way down; there is a rank.
-/
import Derived.Test.YtndhglcdkegigaaDoorCnt
import Derived.Test.YtndhglcdkegigaaDoorSched
namespace Go.Proofs.YtndhglcdkegigaaDoor
open Go.RowKit Go.MapKept

/-- The sizes that are known are right, but for those of variables above. -/
def MemoOk (θ : Nat → Ty) (ρ : Ty → Nat) (t : Ty) (M : List (Nat × Nat)) : Prop := ∀ x ∈ M, x.2 = capS (θ x.1).size ∨ ρ t < ρ (tyV x.1)
def NodRes (θ : Nat → Ty) (t : Ty) (mb : Nat) (M : List (Nat × Nat)) (w : World) (e : Ending) (w' : World) : Prop :=
  ∃ N : List (Nat × Nat), e = .returned (.int .i64 ((capS (sub θ t).size : Nat) : Int)) ∧ MapAt w' mb ((M ++ N).map sizeV) ∧ (∀ x ∈ N, x.2 = capS (θ x.1).size) ∧ Kp (fun y => y = mb) w w'
theorem size_keys {w : World} {M : List (Nat × Nat)} : ∀ p ∈ M.map sizeV, KInt w p.1 := by
  intro p hp
  obtain ⟨g, _, rfl⟩ := List.mem_map.1 hp
  exact ⟨_, rfl⟩
theorem size_ne {M : List (Nat × Nat)} {k : Nat} (h : ∀ x ∈ M, x.1 ≠ k) : ∀ p ∈ M.map sizeV, p.1 ≠ .int .i64 (k : Int) := by
  intro p hp e
  obtain ⟨g, hg, rfl⟩ := List.mem_map.1 hp
  have := Value.int.inj e
  exact h g hg (by omega)

set_option maxHeartbeats 8000000 in
set_option maxRecDepth 100000 in
theorem nodes_any (cp gb mb : Nat) (S : Nat → Prop) (L : List Ty) (Q : Ty → Prop) (hQ : Down Q) (hQL : ∀ n u, solv L n = some u → Q u) (ρ : Ty → Nat) (hr : Rank (solv L) ρ) (θ : Nat → Ty) (hθ : Appl (solv L) θ) :
    ∀ (D : Nat) (t : Ty) (p : Addr) (M : List (Nat × Nat)) (w : World), ρ t ≤ D → Ct w cp gb mb S L → PtTy w S p t → Q t → MapAt w mb (M.map sizeV) → MemoOk θ ρ t M →
    Calls Tryd.prog 47 #[.pointer (some ⟨cp, 0, none⟩), .pointer (some p)] w (NodRes θ t mb M w) := by
  intro D
  induction D using Nat.strongRecOn with | ind D ih => ?_
  intro t p M w hD hct hp hq hm hM
  have IH := Lib.hid ih
  have HAS := Lib.hid (has_any cp gb mb S L p t w hct hp (hQ.name t hq))
  clear ih
  go_enter Tryd.func47, Tryd.ntmps47
  go_wp2_with fail
  refine HAS.out.mono ?_
  rintro e w1 ⟨rfl, hb1⟩
  have hk1 : Kp (fun y => y = mb) w w1 := Kp.ofBelow hb1
  have hct1 := hct.kp hk1
  have hm1 := hm.same (hb1.block _ hm.lt)
  have hp1 := hp.keep (hct.kept hk1)
  have d1 : w1.cell? ⟨cp, 1, none⟩ = some (.map (some mb)) := (Lib.cell_of_heap hct1.cells _).trans rfl
  have d0 : w1.cell? ⟨cp, 0, none⟩ = some (cntV gb) := (Lib.cell_of_heap hct1.cells _).trans rfl
  by_cases hh : ∃ k u, varOf t = some k ∧ solv L k = some u
  · obtain ⟨k, u, hv, hs⟩ := hh
    have hhas : hasOf L t = true := by unfold hasOf; rw [hv]; simp [hs]
    have htk : t = tyV k := good_tyV (hQ.name t hq) hv
    have hk100 := varOf_lt (hQ.name t hq) hv
    have hsz : (sub θ t).size = (θ k).size := by rw [sub_var hv]
    have hsu : (sub θ u).size = (θ k).size := by rw [hθ.sat k u hs]
    have hru := hr.given t k u hv hs
    rw [hhas, hv]
    simp only [varI]
    have HSZ := Lib.hid hsz
    have HSU := Lib.hid hsu
    have HS := Lib.hid hs
    have HTK := Lib.hid htk
    have HM1 := Lib.hid hm1
    have HK1 := Lib.hid hk1
    clear hsz hsu hs htk hm1 hv hhas
    by_cases hin : ∃ v, (k, v) ∈ M
    · obtain ⟨v, hv⟩ := hin
      have hlk := run_look2_yes Tryd.underlying112 law_int HM1.out (k := .int .i64 (k : Int)) (v := .int .i64 (v : Int)) ⟨_, rfl⟩ size_keys (List.mem_map.2 ⟨_, hv, rfl⟩)
      have hvv : v = capS (θ k).size := by
        rcases hM _ hv with h | h
        · exact h
        · rw [HTK.out] at h
          simp at h
      have HV := Lib.hid hvv
      clear hvv hv
      go_wp2
      go_ret
      exact ⟨[], by rw [HV.out, HSZ.out]; rfl, by rw [List.append_nil]; exact HM1.out, fun x hx => (by cases hx), HK1.out⟩
    · have hno : ∀ x ∈ M, x.1 ≠ k := fun x hx e => hin ⟨x.2, by rw [← e]; exact hx⟩
      have hlk := run_look2_no Tryd.underlying112 law_int HM1.out (k := .int .i64 (k : Int)) ⟨_, rfl⟩ size_keys (Tryd.zeroValue3 w1) (size_ne hno)
      obtain ⟨w2, hput, hm2, hk2⟩ := run_put_new (.int .i64 201) Tryd.underlying112 law_int HM1.out (k := .int .i64 (k : Int)) ⟨_, rfl⟩ size_keys (size_ne hno)
      have hct2 := hct1.kp hk2
      have HK2 := Lib.hid (HK1.out.trans hk2 fun _ _ h => h)
      have HM2 : Hid (MapAt w2 mb ((M ++ [(k, 201)]).map sizeV)) := Lib.hid (by rw [List.map_append]; exact hm2)
      have c0 : w2.cell? ⟨cp, 0, none⟩ = some (cntV gb) := (Lib.cell_of_heap hct2.cells _).trans rfl
      have c1 : w2.cell? ⟨cp, 1, none⟩ = some (.map (some mb)) := (Lib.cell_of_heap hct2.cells _).trans rfl
      have HD2 : Hid (Ct w2.drew cp gb mb S L) := Lib.hid (hct2.kp (Kp.ofBelow (Below.refl _ _).drew))
      clear hm2 hk2 hin
      go_wp2_with fail
      refine wp_region_held' (fun w' => w'.cell? ⟨cp, 0, none⟩ = some (cntV gb) ∧ w'.cell? ⟨cp, 1, none⟩ = some (.map (some mb))) [] [0, 1, 2, 3, 4, 5, 6, 7, 8, 9, 10] [11, 12] [13] (by kernel_rfl) (by kernel_rfl) ?s0 ?h0
      case s0 => exact ⟨c0, c1⟩
      case h0 =>
        simp only [opsAt, List.filterMap_cons, List.filterMap_nil, List.getElem?_toArray, List.getElem?_cons_succ, List.getElem?_cons_zero]
        refine wpFloat_nil ?_
        refine wpLoad_step ?v0 rfl (fun w' hS => ?y0) ?k0
        case y0 =>
          obtain ⟨h1, h2⟩ := hS
          go_simp
          try rfl
        case k0 =>
        go_simp
        refine wpLoad_step ?v1 rfl (fun w' hS => ?y1) ?k1
        case y1 =>
          obtain ⟨h1, h2⟩ := hS
          go_simp
          try rfl
        case k1 =>
        go_simp
        refine wpLoad_step ?v2 rfl (fun w' hS => ?y2) ?k2
        case y2 =>
          obtain ⟨h1, h2⟩ := hS
          go_simp
          try rfl
        case k2 =>
        go_simp
        refine wpLoad_step ?v3 rfl (fun w' hS => ?y3) ?k3
        case y3 =>
          obtain ⟨h1, h2⟩ := hS
          go_simp
          try rfl
        case k3 =>
        go_simp
        refine wpLoad_step ?v4 rfl (fun w' hS => ?y4) ?k4
        case y4 =>
          obtain ⟨h1, h2⟩ := hS
          go_simp
          try rfl
        case k4 =>
        go_simp
        refine wpLoad_step ?v5 rfl (fun w' hS => ?y5) ?k5
        case y5 =>
          obtain ⟨h1, h2⟩ := hS
          go_simp
          try rfl
        case k5 =>
        go_simp
        refine wpLoad_step ?v6 rfl (fun w' hS => ?y6) ?k6
        case y6 =>
          obtain ⟨h1, h2⟩ := hS
          go_simp
          try rfl
        case k6 =>
        go_simp
        refine wpLoad_step ?v7 rfl (fun w' hS => ?y7) ?k7
        case y7 =>
          obtain ⟨h1, h2⟩ := hS
          go_simp
          try rfl
        case k7 =>
        go_simp
        refine wpLoad_step ?v8 rfl (fun w' hS => ?y8) ?k8
        case y8 =>
          obtain ⟨h1, h2⟩ := hS
          go_simp
          try rfl
        case k8 =>
        go_simp
        refine wpLoad_step ?v9 rfl (fun w' hS => ?y9) ?k9
        case y9 =>
          obtain ⟨h1, h2⟩ := hS
          go_simp
          try rfl
        case k9 =>
        go_simp
        refine wpLoad_step ?v10 rfl (fun w' hS => ?y10) ?k10
        case y10 =>
          obtain ⟨h1, h2⟩ := hS
          go_simp
          try rfl
        case k10 =>
        go_simp
        refine wpLoad_nil ?_
        refine wpKeep_step rfl ?_
        go_simp
        have GO := got_any k cp gb mb S L w2.drew HD2.out (by omega)
        rw [HS.out] at GO
        refine GO.mono ?_
        rintro e w3 ⟨q, rfl, hpq, rfl⟩
        refine ⟨⟨c0, c1⟩, ?_⟩
        refine wpKeep_step rfl ?_
        go_simp
        refine (IH.out (ρ u) (by omega) u q (M ++ [(k, 201)]) w2.drew (Nat.le_refl _) HD2.out hpq (hQL k u HS.out) (HM2.out.same rfl) (fun x hx => ?_)).mono ?_
        · rcases List.mem_append.1 hx with hx | hx
          · rcases hM x hx with h | h
            · exact .inl h
            · exact .inr (by omega)
          · obtain rfl := List.mem_singleton.1 hx
            right
            have := hru
            rw [HTK.out] at this
            exact this
        rintro e w4 ⟨N, rfl, hm4, hN, hk4⟩
        have hct4 := HD2.out.kp hk4
        have b0 : w4.cell? ⟨cp, 0, none⟩ = some (cntV gb) := (Lib.cell_of_heap hct4.cells _).trans rfl
        have b1 : w4.cell? ⟨cp, 1, none⟩ = some (.map (some mb)) := (Lib.cell_of_heap hct4.cells _).trans rfl
        refine ⟨⟨b0, b1⟩, ?_⟩
        refine wpKeep_nil ?_
        have hl4 : ((M ++ [(k, 201)]) ++ N).map sizeV = M.map sizeV ++ (.int .i64 (k : Int), .int .i64 ((201 : Nat) : Int)) :: N.map sizeV := by simp [sizeV]
        rw [hl4] at hm4
        obtain ⟨w5, hput5, hm5, hk5⟩ := run_put_over (.int .i64 ((capS (sub θ u).size : Nat) : Int)) Tryd.underlying112 law_int hm4 (by exact ⟨_, rfl⟩) (by rw [← hl4]; exact size_keys)
        have hct5 := hct4.kp hk5
        have e1 : w5.cell? ⟨cp, 1, none⟩ = some (.map (some mb)) := (Lib.cell_of_heap hct5.cells _).trans rfl
        have hl5 : M.map sizeV ++ (.int .i64 (k : Int), .int .i64 ((capS (sub θ u).size : Nat) : Int)) :: N.map sizeV = (M ++ (k, capS (sub θ u).size) :: N).map sizeV := by simp [sizeV]
        rw [hl5] at hm5
        have hlk5 := run_look_yes Tryd.underlying112 law_int hm5 (k := .int .i64 (k : Int)) (v := .int .i64 ((capS (sub θ u).size : Nat) : Int)) ⟨_, rfl⟩ size_keys (List.mem_map.2 ⟨(k, capS (sub θ u).size), by simp, rfl⟩)
        have HM5 := Lib.hid hm5
        have HK5 := Lib.hid (((HK2.out.drew).trans hk4 fun _ _ h => h).trans hk5 fun _ _ h => h)
        have HN := Lib.hid hN
        have HE : Hid (capS (sub θ u).size = capS (θ k).size) := Lib.hid (by rw [HSU.out])
        clear hm4 hm5 hk4 hk5 hN hl4 hl5 hput
        go_wp2
        refine NoPanic.normal ?_
        go_wp2
        go_ret
        refine ⟨(k, capS (sub θ u).size) :: N, by rw [HSZ.out, HE.out]; rfl, HM5.out, fun x hx => ?_, HK5.out⟩
        rcases List.mem_cons.1 hx with rfl | hx
        · exact HE.out
        · exact HN.out x hx
  · have hhas : hasOf L t = false := by
      unfold hasOf
      cases hv : varOf t with
      | none => rfl
      | some k =>
        cases hs : solv L k with
        | none => simp [hs]
        | some u => exact absurd ⟨k, u, hv, hs⟩ hh
    have hsz : (sub θ t).size = 1 + sizesL θ t.args := by
      cases hv : varOf t with
      | none => exact size_node hv
      | some k =>
        have hs : solv L k = none := by
          cases hs : solv L k with
          | none => rfl
          | some u => exact absurd ⟨k, u, hv, hs⟩ hh
        rw [sub_var hv, hθ.free k hs, varOf_args hv]
        rfl
    rw [hhas]
    obtain ⟨A, c, hS, e0, e1, hl, hc1, hc2, harg⟩ := hp1.cells
    obtain ⟨m, hmm⟩ : ∃ m, m = t.args.length := ⟨_, rfl⟩
    rw [← hmm] at e1 hl hc1
    have HMM := Lib.hid hmm
    have HSZ := Lib.hid hsz
    have HM1 := Lib.hid hm1
    have HK1 := Lib.hid hk1
    have HARG := Lib.hid harg
    have hpb := (hct1.lt _ hS)
    clear hmm hsz hm1 hhas harg e0
    go_wp2_with fail
    go_loopw [9, 58] (fun s i wr => ∃ (k : Nat) (N : List (Nat × Nat)), k ≤ m ∧ i = .int .i64 k ∧ s = .int .i64 ((capS (1 + sizesL θ (t.args.take k)) : Nat) : Int) ∧ MapAt wr mb ((M ++ N).map sizeV) ∧ (∀ x ∈ N, x.2 = capS (θ x.1).size) ∧ Kp (fun y => y = mb) w1 wr) (fun _ i _ => m - (intOf i).toNat)
    case atStart => exact ⟨0, [], Nat.zero_le _, rfl, rfl, by rw [List.append_nil]; exact HM1.out, fun x hx => (by cases hx), Kp.refl _ _⟩
    case round =>
      obtain ⟨k, N, hk, rfl, rfl, hmr, hN, hkr⟩ := hrel
      have hctr := hct1.kp hkr
      have er := (World.cell?_of_block (a := ⟨p.block, p.off + 1, none⟩) (hkr.block p.block hpb.1 hpb.2)).trans e1
      have HCTR := Lib.hid hctr
      have HMR := Lib.hid hmr
      have HN := Lib.hid hN
      have HKR := Lib.hid hkr
      clear hctr hmr hN hkr
      by_cases hlt : k < m
      · have hki : k < t.args.length := by rw [← HMM.out]; exact hlt
        obtain ⟨ad, rfl, hpa⟩ := HARG.out k _ (List.getElem?_eq_getElem hki)
        have hmem : t.args[k] ∈ t.args := List.getElem_mem hki
        have hrk := hr.arg t _ hmem
        have CALL := Lib.hid (IH.out (ρ t.args[k]) (by omega) t.args[k] (ad.add (k * 2)) (M ++ N) wr (Nat.le_refl _) HCTR.out (hpa.keep (hct1.kept HKR.out)) (hQ.arg t _ hq hmem) HMR.out (fun x hx => by
          rcases List.mem_append.1 hx with h | h
          · rcases hM x h with h | h
            · exact .inl h
            · exact .inr (by omega)
          · exact .inl (HN.out x h)))
        have hik : (0 : Int) ≤ (k : Int) ∧ (k : Int) < (m : Int) := ⟨by omega, by omega⟩
        have HSX := Lib.hid (sizesL_take (θ := θ) (List.getElem?_eq_getElem hki))
        have hs1 := capS_le (1 + sizesL θ (t.args.take k))
        have hs2 := capS_le (sub θ t.args[k]).size
        have HCA := Lib.hid (capS_add (a := 1 + sizesL θ (t.args.take k)) (b := (sub θ t.args[k]).size))
        generalize hx : capS (1 + sizesL θ (t.args.take k)) = x at *
        generalize hy : capS (sub θ t.args[k]).size = y at *
        have HX := Lib.hid hx
        have HY := Lib.hid hy
        clear hx hy
        go_wp2_with fail
        refine CALL.out.mono ?_
        rintro e w4 ⟨N4, rfl, hm4, hN4, hk4⟩
        rw [HY.out]
        have HM4 : Hid (MapAt w4 mb ((M ++ (N ++ N4)).map sizeV)) := Lib.hid (by rw [← List.append_assoc]; exact hm4)
        have HN4 := Lib.hid hN4
        have HK4 := Lib.hid (HKR.out.trans hk4 fun _ _ h => h)
        clear hm4 hN4 hk4
        go_wp2
        go_roundw
        case rel =>
          refine ⟨k + 1, N ++ N4, by omega, by go_num, ?_, HM4.out, fun z hz => ?_, HK4.out⟩
          · have h1 := HCA.out
            rw [HSX.out, ← Nat.add_assoc, ← h1]
            go_num
          · rcases List.mem_append.1 hz with h | h
            · exact HN.out z h
            · exact HN4.out z h
        case measure => simp [intOf]; omega
      · obtain rfl : k = m := by omega
        have hx : t.args.take k = t.args := List.take_of_length_le (by rw [← HMM.out]; exact Nat.le_refl _)
        rw [hx]
        have HX := Lib.hid hx
        clear hx
        go_wp2
        go_ret
        exact ⟨N, by rw [HSZ.out]; rfl, HMR.out, HN.out, HK1.out.trans HKR.out fun _ _ h => h⟩
end Go.Proofs.YtndhglcdkegigaaDoor
