/-
  Applying a solution to a type: the walks of (*unify.Counter).applied and Apply, of unify.NewCounter, types.counter, types.Nodes and types.Apply (printed by genApd.py).
  Conditions: names are good, all the way down; there is a rank.
  The walks of (*unify.Counter).Apply, types.counter, types.Nodes and types.Apply.
  Conditions: names are good, all the way down; there is a rank.
-/
import Derived.Test.YtndhglcdkegigaaDoorNod
import Derived.Test.YtndhglcdkegigaaDoorCop
namespace Go.Proofs.YtndhglcdkegigaaDoor
section
open Go.RowKit Go.MapKept
set_option maxHeartbeats 8000000 in
set_option maxRecDepth 100000 in
theorem applied_any (cp gb mb : Nat) (S : Nat → Prop) (L : List Ty) (Q : Ty → Prop) (hQ : Down Q) (hQL : ∀ n u, solv L n = some u → Q u) (ρ : Ty → Nat) (hr : Rank (solv L) ρ) (θ : Nat → Ty) (hθ : Appl (solv L) θ) :
    ∀ (D : Nat) (t : Ty) (p : Addr) (w : World), ρ t ≤ D → Ct w cp gb mb S L → PtTy w S p t → Q t →
    Calls Tryd.prog 66 #[.pointer (some ⟨cp, 0, none⟩), .pointer (some p)] w (MadeTy (sub θ t) w) := by
  intro D
  induction D using Nat.strongRecOn with | ind D ih => ?_
  intro t p w hD hct hp hq
  have IH := Lib.hid ih
  clear ih
  have hb0 : Below w.heap.size w (w.alloc (.cells #[.string ⟨#[]⟩, .slice none 0 0] 30)) := (Below.refl _ _).alloc (Nat.le_refl _) _
  have hR0 := alloc1 w (.cells #[.string ⟨#[]⟩, .slice none 0 0] 30)
  have hct0 := hct.kp (Kp.ofBelow hb0)
  have hp0 := hp.keep (hct.kept (Kp.ofBelow hb0))
  have HAS := Lib.hid (has_any cp gb mb S L p t _ hct0 hp0 (hQ.name t hq))
  have hs0 : (w.alloc (.cells #[.string ⟨#[]⟩, .slice none 0 0] 30)).heap.size = w.heap.size + 1 := by simp
  go_enter Tryd.func66, Tryd.ntmps66
  go_wp2_with fail
  refine HAS.out.mono ?_
  generalize w.alloc (.cells #[.string ⟨#[]⟩, .slice none 0 0] 30) = w0 at *
  rintro e w1 ⟨rfl, hb1⟩
  have hct1 := hct0.kp (Kp.ofBelow hb1)
  have hp1 := hp0.keep (hct0.kept (Kp.ofBelow hb1))
  have hR1 := (hb1.block _ (lt_of_heap hR0)).trans hR0
  have hbw1 : Below w.heap.size w w1 := hb0.trans (hb1.mono hb0.size)
  have hsz1 := hb1.size
  have d0 : w1.cell? ⟨cp, 0, none⟩ = some (cntV gb) := (Lib.cell_of_heap hct1.cells _).trans rfl
  by_cases hh : ∃ k u, varOf t = some k ∧ solv L k = some u
  · obtain ⟨k, u, hv, hs⟩ := hh
    have hhas : hasOf L t = true := by unfold hasOf; rw [hv]; simp [hs]
    have hk100 := varOf_lt (hQ.name t hq) hv
    have hsu : sub θ t = sub θ u := by rw [sub_var hv, hθ.sat k u hs]
    have hru := hr.given t k u hv hs
    rw [hhas, hv]
    simp only [varI]
    have HS := Lib.hid hs
    have HSU := Lib.hid hsu
    have GO := got_any k cp gb mb S L w1 hct1 (by omega)
    rw [hs] at GO
    have HGO := Lib.hid GO
    clear hsu hs hv hhas GO HAS
    go_wp2_with fail
    refine HGO.out.mono ?_
    rintro e w2 ⟨q, rfl, hpq, rfl⟩
    go_wp2_with fail
    refine (IH.out (ρ u) (by omega) u q w1 (Nat.le_refl _) hct1 hpq (hQL k u HS.out)).mono ?_
    rintro e w2 ⟨u1, v1, rfl, hT, hb2⟩
    obtain ⟨u1, v1, rfl, rfl⟩ := hT.shape
    have hR2 := (hb2.block _ (lt_of_heap hR1)).trans hR1
    have hRl := lt_of_heap hR1
    have r0 : w2.cell? ⟨w.heap.size, 0, none⟩ = some (.string ⟨#[]⟩) := (Lib.cell_of_heap hR2 _).trans rfl
    have r1 : w2.cell? ⟨w.heap.size, 1, none⟩ = some (.slice none 0 0) := (Lib.cell_of_heap hR2 _).trans rfl
    have z0 : w2.frozen? ⟨w.heap.size, 0, none⟩ = false := Lib.frozen_of_heap hR2 0
    have z1 : w2.frozen? ⟨w.heap.size, 1, none⟩ = false := Lib.frozen_of_heap hR2 1
    have HT := Lib.hid hT
    have HB2 := Lib.hid (hbw1.trans (hb2.mono hbw1.size))
    have HR2 := Lib.hid hR2
    have hsz2 := hb2.size
    clear hT hb2 hR2 hR1 hR0 hb0 hb1 hbw1
    go_wp2_with fail
    have hR3 : ((w2.setCell ⟨w.heap.size, 0, none⟩ (.string (bs u1))).setCell ⟨w.heap.size, 1, none⟩ (.slice v1.1 v1.2.1 v1.2.2)).heap[w.heap.size]? = some (.cells #[sv u1, .slice v1.1 v1.2.1 v1.2.2] 30 (0, 0)) := setCell_heap (setCell_heap HR2.out)
    have q0 : ((w2.setCell ⟨w.heap.size, 0, none⟩ (.string (bs u1))).setCell ⟨w.heap.size, 1, none⟩ (.slice v1.1 v1.2.1 v1.2.2)).cell? ⟨w.heap.size, 0, none⟩ = some (sv u1) := (Lib.cell_of_heap hR3 _).trans rfl
    have q1 : ((w2.setCell ⟨w.heap.size, 0, none⟩ (.string (bs u1))).setCell ⟨w.heap.size, 1, none⟩ (.slice v1.1 v1.2.1 v1.2.2)).cell? ⟨w.heap.size, 1, none⟩ = some (.slice v1.1 v1.2.1 v1.2.2) := (Lib.cell_of_heap hR3 _).trans rfl
    refine bodyPost_ret (v := .agg #[sv u1, .slice v1.1 v1.2.1 v1.2.2]) ?_ rfl ?_
    · clear HT HB2 HR2 hR3 IH HGO HS
      simp [results, Tryd.results66, go_sem, q0, q1]
    · refine ⟨_, _, rfl, ?_, (HB2.out.setCell (by simp) _).setCell (by simp) _⟩
      rw [HSU.out]
      refine (HT.out.keep (Kept.trans (keptGrown (row := some w.heap.size) grownSet fun x hx => ⟨hx.2, ?_⟩) (keptGrown (row := some w.heap.size) grownSet fun x hx => ⟨by rw [sizeSet]; exact hx.2, ?_⟩))).more fun x hx => ⟨?_, ?_⟩
      · intro e; injection e with e; have := hx.1; omega
      · intro e; injection e with e; have := hx.1; omega
      · have := hx.1; omega
      · have := hx.2; simp only [sizeSet]; omega
  · have hhas : hasOf L t = false := by
      unfold hasOf
      cases hv : varOf t with
      | none => rfl
      | some k =>
        cases hs : solv L k with
        | none => simp [hs]
        | some u => exact absurd ⟨k, u, hv, hs⟩ hh
    have hnode : sub θ t = .mk t.name (t.args.map (sub θ)) := by
      cases hv : varOf t with
      | none => exact sub_node hv
      | some k =>
        have hs : solv L k = none := by
          cases hs : solv L k with
          | none => rfl
          | some u => exact absurd ⟨k, u, hv, hs⟩ hh
        have hk : t = tyV k := good_tyV (hQ.name t hq) hv
        rw [sub_var hv, hθ.free k hs, hk]
        rfl
    rw [hhas]
    have hnl : t.name.length ≤ 4000000 := by
      obtain ⟨uu, vv, _, _, _, hty⟩ := hp1.ex
      obtain ⟨_, _, _, _, _, h1, _⟩ := hty.open_
      exact h1
    obtain ⟨A, c, hS, e0, e1, hl, hc1, hc2, harg⟩ := hp1.cells
    obtain ⟨m, hmm⟩ : ∃ m, m = t.args.length := ⟨_, rfl⟩
    rw [← hmm] at e1 hl hc1
    obtain ⟨ks, hks⟩ : ∃ ks, ks = t.args.map (sub θ) := ⟨_, rfl⟩
    have hkl : ks.length = m := by rw [hks, hmm]; simp
    have hka : ∀ k a, t.args[k]? = some a → ks[k]? = some (sub θ a) := fun k a h => by rw [hks, List.getElem?_map, h]; rfl
    have HMM := Lib.hid hmm
    have HKL := Lib.hid hkl
    have HKA := Lib.hid hka
    have HARG := Lib.hid harg
    have HBW1 := Lib.hid hbw1
    have HR1 := Lib.hid hR1
    have HNL := Lib.hid hnl
    rw [← hks] at hnode
    have HND := Lib.hid hnode
    have hpb := (hct1.lt _ hS)
    have hRl := lt_of_heap hR1
    generalize hnm : t.name = n at *
    clear hmm hks hkl hka hnode hhas harg hbw1 hR1 hR0 HAS hnl
    obtain ⟨i0, hi, hz0, hz1, hz2⟩ := info_parts infoT
    go_wp2_with fail
    go_loopw [34] (fun i wr => ∃ k : Nat, k ≤ m ∧ i = .int .i64 k ∧ OutIs w1.heap.size n (ks.take k) wr ∧ Below w1.heap.size w1 wr) (fun i _ => m - (intOf i).toNat)
    case atStart =>
      refine ⟨0, Nat.zero_le _, rfl, OutIs.fresh ?_, ?_⟩
      · exact alloc1 w1 _
      · exact (Below.refl _ _).alloc (Nat.le_refl _) _
    case round =>
      obtain ⟨k, hk, rfl, ho, hb⟩ := hrel
      obtain ⟨ov, vs', ho'⟩ := ho
      have hl2 := ho'.len
      have hB := ho'.blk
      have c0 : wr.cell? ⟨w1.heap.size, 0, none⟩ = some (sv n) := by rw [Lib.cell_of_heap hB]; rfl
      have c1 : wr.cell? ⟨w1.heap.size, 1, none⟩ = some ov := by rw [Lib.cell_of_heap hB]; rfl
      have f1 : wr.frozen? ⟨w1.heap.size, 1, none⟩ = false := Lib.frozen_of_heap hB 1
      have ep := (hb.cell (p := ⟨p.block, p.off + 1, none⟩) hpb.1).trans e1
      have hctr := hct1.kp (Kp.ofBelow hb)
      by_cases hlt : k < m
      · have hki : k < t.args.length := by rw [← HMM.out]; exact hlt
        obtain ⟨ad, rfl, hpa⟩ := HARG.out k _ (List.getElem?_eq_getElem hki)
        have hmem : t.args[k] ∈ t.args := List.getElem_mem hki
        have hrk := hr.arg t _ hmem
        have hk1 := HKA.out k _ (List.getElem?_eq_getElem hki)
        have CALL := Lib.hid (IH.out (ρ t.args[k]) (by omega) t.args[k] (ad.add (k * 2)) wr.drew (Nat.le_refl _) (hctr.kp (Kp.ofBelow (Below.refl _ _).drew)) ((hpa.keep (hct1.kept (Kp.ofBelow hb))).keep fun _ _ => rfl) (hQ.arg t _ hq hmem))
        have HO := Lib.hid ho'
        have HK1 := Lib.hid hk1
        have hsz := hb.size
        have hlt2 := lt_of_heap hB
        have hik : (0 : Int) ≤ (k : Int) ∧ (k : Int) < (m : Int) := ⟨by omega, by omega⟩
        clear hB ho' hl2 hk1 hpa hmem hctr
        go_wp2_with fail
        refine wp_region_held' (fun w' => w'.cell? ⟨w1.heap.size, 1, none⟩ = some ov ∧ w'.cell? ⟨p.block, p.off + 1, none⟩ = some (.slice (some ad) m c)) [] [0, 1, 2, 3, 4, 5, 6, 7, 8] [9, 10] [11, 12, 13] (by kernel_rfl) (by kernel_rfl) ?s0 ?h0
        case s0 => exact ⟨c1, ep⟩
        case h0 =>
          simp only [opsAt, List.filterMap_cons, List.filterMap_nil, List.getElem?_toArray, List.getElem?_cons_succ, List.getElem?_cons_zero]
          refine wpFloat_nil ?_
          refine wpLoad_step ?va0 rfl (fun w' hS => ?ya0) ?ka0
          case ya0 =>
            obtain ⟨h1, h2⟩ := hS
            go_simp
            try rfl
          case ka0 =>
          go_simp
          refine wpLoad_step ?va1 rfl (fun w' hS => ?ya1) ?ka1
          case ya1 =>
            obtain ⟨h1, h2⟩ := hS
            go_simp
            try rfl
          case ka1 =>
          go_simp
          refine wpLoad_step ?va2 rfl (fun w' hS => ?ya2) ?ka2
          case ya2 =>
            obtain ⟨h1, h2⟩ := hS
            go_simp
            try rfl
          case ka2 =>
          go_simp
          refine wpLoad_step ?va3 rfl (fun w' hS => ?ya3) ?ka3
          case ya3 =>
            obtain ⟨h1, h2⟩ := hS
            go_simp
            try rfl
          case ka3 =>
          go_simp
          refine wpLoad_step ?va4 rfl (fun w' hS => ?ya4) ?ka4
          case ya4 =>
            obtain ⟨h1, h2⟩ := hS
            go_simp
            try rfl
          case ka4 =>
          go_simp
          refine wpLoad_step ?va5 rfl (fun w' hS => ?ya5) ?ka5
          case ya5 =>
            obtain ⟨h1, h2⟩ := hS
            go_simp
            try rfl
          case ka5 =>
          go_simp
          refine wpLoad_step ?va6 rfl (fun w' hS => ?ya6) ?ka6
          case ya6 =>
            obtain ⟨h1, h2⟩ := hS
            go_simp
            try rfl
          case ka6 =>
          go_simp
          refine wpLoad_step ?va7 rfl (fun w' hS => ?ya7) ?ka7
          case ya7 =>
            obtain ⟨h1, h2⟩ := hS
            go_simp
            try rfl
          case ka7 =>
          go_simp
          refine wpLoad_step ?va8 rfl (fun w' hS => ?ya8) ?ka8
          case ya8 =>
            obtain ⟨h1, h2⟩ := hS
            go_simp
            try rfl
          case ka8 =>
          go_simp
          refine wpLoad_nil ?_
          refine wpKeep_step rfl ?_
          go_simp
          refine CALL.out.mono ?_
          rintro e w2 ⟨u1, v1, rfl, hT1, hb2⟩
          obtain ⟨u1, v1, rfl, rfl⟩ := hT1.shape
          have hb2 : Below wr.heap.size wr w2 := ((Below.refl _ _).drew).trans hb2
          have hzw : wr.heap.size ≤ w2.heap.size := hb2.size
          have HT1 : Hid (TyIs w2 (Fr wr.heap.size w2.heap.size) (sub θ t.args[k]) (sv u1) (.slice v1.1 v1.2.1 v1.2.2)) := Lib.hid hT1
          clear hT1
          have d1 : w2.cell? ⟨w1.heap.size, 1, none⟩ = some ov := (hb2.cell (p := ⟨w1.heap.size, 1, none⟩) hlt2).trans c1
          have d2 : w2.cell? ⟨p.block, p.off + 1, none⟩ = some (.slice (some ad) m c) := (hb2.cell (p := ⟨p.block, p.off + 1, none⟩) (Nat.lt_of_lt_of_le hpb.1 hsz)).trans ep
          refine ⟨⟨d1, d2⟩, ?_⟩
          refine wpKeep_step rfl ?_
          go_simp
          refine ⟨⟨(cellAlloc (by omega)).trans d1, (cellAlloc (by have := hpb.1; omega)).trans d2⟩, ?_⟩
          refine wpKeep_nil ?_
          have hbW : Below wr.heap.size wr (w2.alloc (.cells #[sv u1, .slice v1.1 v1.2.1 v1.2.2] 30)) := hb2.alloc (by omega) _
          have hO2 := HO.out.kept (grownOfBelow hbW) (.inl rfl)
          have hlk : (ks.take k).length = k := by rw [List.length_take, HKL.out]; omega
          have hown2 := hO2.own
          rw [hlk] at hown2
          have HO2 := Lib.hid hO2
          have HLK := Lib.hid hlk
          clear hO2 hlk
          refine (wpList_append_lies _ rfl _ _ 28 rfl (w1.heap.size + 1) 30 i0 _ 2 40 Tryd.underlying28 hi hz0 hz1 hz2 rfl (by omega) ov k (flat2 vs') rfl hown2 ⟨w2.heap.size, 0, none⟩ 1 1 [sv u1, .slice v1.1 v1.2.1 v1.2.2] rfl rfl ?c1 ?c2 (by omega) ?c3 ?c4 ?c5 _ rfl ?_)
          case c1 => exact World.news_of_block (cs := #[sv u1, .slice v1.1 v1.2.1 v1.2.2]) (alloc1 w2 _)
          case c2 => simp [Value.oneCell']
          case c3 => unfold maxLen; omega
          case c4 => omega
          case c5 => simp; omega
          intro g cap w3 hown3 hgrow hat _
          have hb3 := (hgrow.block w1.heap.size (by simp; omega) (fun e => by have := (hown2.lt _ e.symm).1; omega)).trans HO2.out.blk
          have d1 : w3.cell? ⟨w1.heap.size, 1, none⟩ = some ov := by rw [Lib.cell_of_heap hb3]; rfl
          have f2 : w3.frozen? ⟨w1.heap.size, 1, none⟩ = false := Lib.frozen_of_heap hb3 1
          have HN : Hid (OutIs w1.heap.size n (ks.take k ++ [sub θ t.args[k]]) (w3.setCell ⟨w1.heap.size, 1, none⟩ (.slice (some ⟨g, 0, none⟩) (k + 1) cap))) := by
            have := Lib.hid (HO2.out.push (t := sub θ t.args[k]) (u := sv u1) (v := .slice v1.1 v1.2.1 v1.2.2) (w' := w3) (g := g) (cap := cap) ?_ (by rw [HLK.out]; exact hown3) hgrow hat)
            · rw [HLK.out] at this
              exact this
            · refine (HT1.out.keep (keptGrown (World.grownBy_alloc w2 _ none) fun x hx => ⟨hx.2, by simp⟩)).more fun x hx => ⟨?_, ?_, ?_⟩
              · have := hx.1; omega
              · have := hx.2; simp; omega
              · intro e
                have := (HO.out.own.lt x e.symm).2
                have h5 := hx.1
                omega
          have hb4 : Below w1.heap.size w1 w3 := (hb.trans (hbW.mono hsz)).grown hgrow (by simp; omega) (fun x e => by have := (hown2.lt _ e).1; omega)
          clear hb3
          go_wp2
          refine NoPanic.normal ?_
          go_wp2
          go_roundw
          case rel =>
            refine ⟨k + 1, by omega, by go_num, ?_, ?_⟩
            · have := HN.out
              rw [List.take_add_one, HK1.out]
              exact this
            · exact hb4.setCell (by simp) _
          case measure => simp [intOf]; omega
      · obtain ⟨ov, rfl⟩ := ho'.shape
        have hRr := (hb.block _ hRl).trans HR1.out
        have r0 : wr.cell? ⟨w.heap.size, 0, none⟩ = some (.string ⟨#[]⟩) := by rw [Lib.cell_of_heap hRr]; rfl
        have r1 : wr.cell? ⟨w.heap.size, 1, none⟩ = some (.slice none 0 0) := by rw [Lib.cell_of_heap hRr]; rfl
        have g0 : wr.frozen? ⟨w.heap.size, 0, none⟩ = false := Lib.frozen_of_heap hRr 0
        have g1 : wr.frozen? ⟨w.heap.size, 1, none⟩ = false := Lib.frozen_of_heap hRr 1
        have HO := Lib.hid ho'
        have HRR := Lib.hid hRr
        clear hB ho' hRr hl2 hctr
        go_wp2_with fail
        have hR2 : ((wr.setCell ⟨w.heap.size, 0, none⟩ (.string (bs n))).setCell ⟨w.heap.size, 1, none⟩ (.slice ov.1 ov.2.1 ov.2.2)).heap[w.heap.size]? = some (.cells #[sv n, .slice ov.1 ov.2.1 ov.2.2] 30 (0, 0)) := setCell_heap (setCell_heap HRR.out)
        have q0 : ((wr.setCell ⟨w.heap.size, 0, none⟩ (.string (bs n))).setCell ⟨w.heap.size, 1, none⟩ (.slice ov.1 ov.2.1 ov.2.2)).cell? ⟨w.heap.size, 0, none⟩ = some (sv n) := by rw [Lib.cell_of_heap hR2]; rfl
        have q1 : ((wr.setCell ⟨w.heap.size, 0, none⟩ (.string (bs n))).setCell ⟨w.heap.size, 1, none⟩ (.slice ov.1 ov.2.1 ov.2.2)).cell? ⟨w.heap.size, 1, none⟩ = some (.slice ov.1 ov.2.1 ov.2.2) := by rw [Lib.cell_of_heap hR2]; rfl
        refine bodyPost_ret (v := .agg #[sv n, .slice ov.1 ov.2.1 ov.2.2]) ?_ rfl ?_
        · clear HO HRR hb hR2 IH HARG HKA HBW1
          simp [results, Tryd.results66, go_sem, q0, q1]
        · obtain rfl : k = m := by omega
          have hx : ks.take k = ks := List.take_of_length_le (by rw [HKL.out]; exact Nat.le_refl _)
          have hd := HO.out
          rw [hx] at hd
          have hD := hd.done HNL.out (by rw [HKL.out]; exact hl)
          have hlt3 := lt_of_heap hd.blk
          refine ⟨_, _, rfl, ?_, ((HBW1.out.trans (hb.mono HBW1.out.size)).setCell (by simp) _).setCell (by simp) _⟩
          rw [HND.out]
          refine (hD.keep (Kept.trans (keptGrown (row := some w.heap.size) grownSet fun x hx => ⟨hx.2, ?_⟩) (keptGrown (row := some w.heap.size) grownSet fun x hx => ⟨by rw [sizeSet]; exact hx.2, ?_⟩))).more fun x hx => ⟨?_, ?_⟩
          · intro e; injection e with e; have := hx.1; omega
          · intro e; injection e with e; have := hx.1; omega
          · have := hx.1; omega
          · have := hx.2; simp only [sizeSet]; omega
end

section
open Go.RowKit Go.MapKept
def errT : Ty := .mk [101, 114, 114, 111, 114] []
/-- What Apply makes: too wide a type becomes the broken one. -/
def appT (θ : Nat → Ty) (t : Ty) : Ty := if (sub θ t).size > 200 then errT else sub θ t

def ApplyRes (t : Ty) (mb : Nat) (w : World) (e : Ending) (w' : World) : Prop :=
  ∃ u v, e = .returned (.agg #[u, v]) ∧ TyIs w' (Fr w.heap.size w'.heap.size) t u v ∧ Kp (fun y => y = mb) w w'

set_option maxHeartbeats 8000000 in
set_option maxRecDepth 100000 in
theorem capply_any (cp gb mb : Nat) (S : Nat → Prop) (L : List Ty) (Q : Ty → Prop) (hQ : Down Q) (hQL : ∀ n u, solv L n = some u → Q u) (ρ : Ty → Nat) (hr : Rank (solv L) ρ) (θ : Nat → Ty) (hθ : Appl (solv L) θ)
    (t : Ty) (p : Addr) (w : World) (hct : Ct w cp gb mb S L) (hp : PtTy w S p t) (hq : Q t) (hm : MapAt w mb (([] : List (Nat × Nat)).map sizeV)) :
    Calls Tryd.prog 49 #[.pointer (some ⟨cp, 0, none⟩), .pointer (some p)] w (ApplyRes (appT θ t) mb w) := by
  have hb0 : Below w.heap.size w (w.alloc (.cells #[.string ⟨#[]⟩, .slice none 0 0] 30)) := (Below.refl _ _).alloc (Nat.le_refl _) _
  have hR0 := alloc1 w (.cells #[.string ⟨#[]⟩, .slice none 0 0] 30)
  have hct0 := hct.kp (Kp.ofBelow hb0)
  have hp0 := hp.keep (hct.kept (Kp.ofBelow hb0))
  have hm0 := hm.same (hb0.block _ hm.lt)
  have hml := hm.lt
  have NOD := Lib.hid (nodes_any cp gb mb S L Q hQ hQL ρ hr θ hθ (ρ t) t p [] _ (Nat.le_refl _) hct0 hp0 hq hm0 (fun x hx => by cases hx))
  have hsz0 : (w.alloc (.cells #[.string ⟨#[]⟩, .slice none 0 0] 30)).heap.size = w.heap.size + 1 := by simp
  have HM := Lib.hid hm
  clear hm
  go_enter Tryd.func49, Tryd.ntmps49
  go_wp2_with fail
  refine NOD.out.mono ?_
  generalize w.alloc (.cells #[.string ⟨#[]⟩, .slice none 0 0] 30) = w0 at *
  rintro e w1 ⟨N, rfl, hm1, hN, hk1⟩
  have hct1 := hct0.kp hk1
  have hp1 := hp0.keep (hct0.kept hk1)
  have hR1 := hk1.heap hR0 (by omega)
  have hkw : Kp (fun y => y = mb) w w1 := (Kp.ofBelow hb0).trans hk1 fun _ _ h => h
  have hsz1 := hk1.size
  have hRl := lt_of_heap hR1
  have r0 : w1.cell? ⟨w.heap.size, 0, none⟩ = some (.string ⟨#[]⟩) := (Lib.cell_of_heap hR1 _).trans rfl
  have r1 : w1.cell? ⟨w.heap.size, 1, none⟩ = some (.slice none 0 0) := (Lib.cell_of_heap hR1 _).trans rfl
  have z0 : w1.frozen? ⟨w.heap.size, 0, none⟩ = false := Lib.frozen_of_heap hR1 0
  have z1 : w1.frozen? ⟨w.heap.size, 1, none⟩ = false := Lib.frozen_of_heap hR1 1
  obtain ⟨x, hx⟩ : ∃ x, x = capS (sub θ t).size := ⟨_, rfl⟩
  rw [← hx]
  have HX := Lib.hid hx
  have HKW := Lib.hid hkw
  have HR1 := Lib.hid hR1
  have HR0 := Lib.hid hR0
  clear hx hkw hm1 hk1 hR0 hR1 hN
  by_cases hgt : x > 200
  · have hap : appT θ t = errT := by
      have h1 := HX.out
      unfold capS at h1
      unfold appT
      rw [if_pos (by omega)]
    have HAP := Lib.hid hap
    have hg1 : decide ((x : Int) > 200) = true := by simp; omega
    clear hap
    go_wp2_with fail
    have hR3 : ((w1.setCell ⟨w.heap.size, 0, none⟩ (.string ⟨#[101, 114, 114, 111, 114]⟩)).setCell ⟨w.heap.size, 1, none⟩ (.slice none 0 0)).heap[w.heap.size]? = some (.cells #[.string ⟨#[101, 114, 114, 111, 114]⟩, .slice none 0 0] 30 (0, 0)) := setCell_heap (setCell_heap HR1.out)
    have q0 : ((w1.setCell ⟨w.heap.size, 0, none⟩ (.string ⟨#[101, 114, 114, 111, 114]⟩)).setCell ⟨w.heap.size, 1, none⟩ (.slice none 0 0)).cell? ⟨w.heap.size, 0, none⟩ = some (.string ⟨#[101, 114, 114, 111, 114]⟩) := (Lib.cell_of_heap hR3 _).trans rfl
    have q1 : ((w1.setCell ⟨w.heap.size, 0, none⟩ (.string ⟨#[101, 114, 114, 111, 114]⟩)).setCell ⟨w.heap.size, 1, none⟩ (.slice none 0 0)).cell? ⟨w.heap.size, 1, none⟩ = some (.slice none 0 0) := (Lib.cell_of_heap hR3 _).trans rfl
    refine bodyPost_ret (v := .agg #[.string ⟨#[101, 114, 114, 111, 114]⟩, .slice none 0 0]) ?_ rfl ?_
    · clear HX HKW HR1 HR0 hR3 NOD HM HAP
      simp [results, Tryd.results49, go_sem, q0, q1]
    · refine ⟨_, _, rfl, ?_, ?_⟩
      · rw [HAP.out]
        exact (Tys.nil _ _ none).close (by decide) (Nat.zero_le _) ⟨Nat.le_refl _, Nat.zero_le _⟩
      · exact (HKW.out.setCell (fun h => absurd h (by simp)) _).setCell (fun h => absurd h (by simp)) _
  · have hap : appT θ t = sub θ t := by
      have h1 := HX.out
      unfold capS at h1
      unfold appT
      rw [if_neg (by omega)]
    have HAP := Lib.hid hap
    have hg1 : decide ((x : Int) > 200) = false := by simp; omega
    have CALL := Lib.hid (applied_any cp gb mb S L Q hQ hQL ρ hr θ hθ (ρ t) t p w1 (Nat.le_refl _) hct1 hp1 hq)
    clear hap
    go_wp2_with fail
    refine CALL.out.mono ?_
    rintro e w2 ⟨u1, v1, rfl, hT, hb2⟩
    obtain ⟨u1, v1, rfl, rfl⟩ := hT.shape
    have hR2 := (hb2.block _ hRl).trans HR1.out
    have r0 : w2.cell? ⟨w.heap.size, 0, none⟩ = some (.string ⟨#[]⟩) := (Lib.cell_of_heap hR2 _).trans rfl
    have r1 : w2.cell? ⟨w.heap.size, 1, none⟩ = some (.slice none 0 0) := (Lib.cell_of_heap hR2 _).trans rfl
    have z0 : w2.frozen? ⟨w.heap.size, 0, none⟩ = false := Lib.frozen_of_heap hR2 0
    have z1 : w2.frozen? ⟨w.heap.size, 1, none⟩ = false := Lib.frozen_of_heap hR2 1
    have HT := Lib.hid hT
    have HK2 := Lib.hid (HKW.out.below hb2)
    have HR2 := Lib.hid hR2
    have hsz2 := hb2.size
    clear hT hb2 hR2
    go_wp2_with fail
    have hR3 : ((w2.setCell ⟨w.heap.size, 0, none⟩ (.string (bs u1))).setCell ⟨w.heap.size, 1, none⟩ (.slice v1.1 v1.2.1 v1.2.2)).heap[w.heap.size]? = some (.cells #[sv u1, .slice v1.1 v1.2.1 v1.2.2] 30 (0, 0)) := setCell_heap (setCell_heap HR2.out)
    have q0 : ((w2.setCell ⟨w.heap.size, 0, none⟩ (.string (bs u1))).setCell ⟨w.heap.size, 1, none⟩ (.slice v1.1 v1.2.1 v1.2.2)).cell? ⟨w.heap.size, 0, none⟩ = some (sv u1) := (Lib.cell_of_heap hR3 _).trans rfl
    have q1 : ((w2.setCell ⟨w.heap.size, 0, none⟩ (.string (bs u1))).setCell ⟨w.heap.size, 1, none⟩ (.slice v1.1 v1.2.1 v1.2.2)).cell? ⟨w.heap.size, 1, none⟩ = some (.slice v1.1 v1.2.1 v1.2.2) := (Lib.cell_of_heap hR3 _).trans rfl
    refine bodyPost_ret (v := .agg #[sv u1, .slice v1.1 v1.2.1 v1.2.2]) ?_ rfl ?_
    · clear HT HK2 HR2 hR3 NOD HM HAP CALL HX HKW HR1 HR0
      simp [results, Tryd.results49, go_sem, q0, q1]
    · refine ⟨_, _, rfl, ?_, (HK2.out.setCell (fun h => absurd h (by simp)) _).setCell (fun h => absurd h (by simp)) _⟩
      rw [HAP.out]
      refine (HT.out.keep (Kept.trans (keptGrown (row := some w.heap.size) grownSet fun x hx => ⟨hx.2, ?_⟩) (keptGrown (row := some w.heap.size) grownSet fun x hx => ⟨by rw [sizeSet]; exact hx.2, ?_⟩))).more fun x hx => ⟨?_, ?_⟩
      · intro e; injection e with e; have := hx.1; omega
      · intro e; injection e with e; have := hx.1; omega
      · have := hx.1; omega
      · have := hx.2; simp only [sizeSet]; omega

/-- A counter that was just made. -/
def CtRes (S : Nat → Prop) (L : List Ty) (w : World) (e : Ending) (w' : World) : Prop :=
  ∃ cp gb mb, e = .returned (.pointer (some ⟨cp, 0, none⟩)) ∧ Ct w' cp gb mb S L ∧ MapAt w' mb (([] : List (Nat × Nat)).map sizeV) ∧ Below w.heap.size w w' ∧ w.heap.size ≤ mb

set_option maxHeartbeats 4000000 in
set_option maxRecDepth 100000 in
theorem newCounter_any (gb : Nat) (w : World) : Calls Tryd.prog 63 #[cntV gb] w fun e w' => e = .returned (.pointer (some ⟨w.heap.size + 1, 0, none⟩)) ∧ w' = (w.alloc (.map #[] 0)).alloc (.cells #[cntV gb, .map (some w.heap.size)] 114) := by
  have hmm := @run_makeMap Tryd.prog
  go_enter Tryd.func63, Tryd.ntmps63
  go_wp2
  go_ret
  exact ⟨rfl, rfl⟩

set_option maxHeartbeats 4000000 in
set_option maxRecDepth 100000 in
theorem counter_any (S : Nat → Prop) (L : List Ty) (LA : Option Addr) (lc : Nat) (vs : List (Value × Value)) (w : World) (hT : Tys w S LA L vs) (hS : ∀ b, S b → b < w.heap.size) (hl : L.length ≤ 4000000) :
    Calls Tryd.prog 46 #[.slice LA L.length lc] w (CtRes S L w) := by
  obtain ⟨m, hm⟩ : ∃ m, m = L.length := ⟨_, rfl⟩
  rw [← hm]
  have HM := Lib.hid hm
  have HT := Lib.hid hT
  have HL := Lib.hid hl
  have h3 := alloc3 w (.cells #[.slice LA m lc] 28) (.map #[] 0) (.cells #[cntV w.heap.size, .map (some (w.heap.size + 1))] 114)
  have hb3 : Below w.heap.size w (((w.alloc (.cells #[.slice LA m lc] 28)).alloc (.map #[] 0)).alloc (.cells #[cntV w.heap.size, .map (some (w.heap.size + 1))] 114)) := (((Below.refl _ _).alloc (Nat.le_refl _) _).alloc (by simp) _).alloc (by simp; omega) _
  have H3 := Lib.hid h3
  have HB3 := Lib.hid hb3
  have HS := Lib.hid hS
  have HN := Lib.hid (newCounter_any w.heap.size (w.alloc (.cells #[.slice LA m lc] 28)))
  clear hm hT hl h3 hb3 hS
  go_enter Tryd.func46, Tryd.ntmps46
  go_wp2_with fail
  refine HN.out.mono ?_
  rintro e w1 ⟨rfl, rfl⟩
  go_wp2
  go_ret
  refine ⟨w.heap.size + 1 + 1, w.heap.size, w.heap.size + 1, rfl, ⟨H3.out.2.2, ⟨LA, lc, by rw [← HM.out]; exact H3.out.1, vs, HT.out.keep ((kept_below HB3.out).sub HS.out)⟩, HL.out, fun b hb => ⟨?_, ?_⟩, by omega, by omega⟩, ⟨#[], 0, H3.out.2.1, rfl, stamped_empty 0⟩, HB3.out, by omega⟩
  · have := HS.out b hb
    simp
    omega
  · have := HS.out b hb
    omega

theorem ptBox {w : World} {t : Ty} {n : List UInt8} {s : Option Addr × Nat × Nat} (h : TyIs w (Lt w.heap.size) t (sv n) (.slice s.1 s.2.1 s.2.2)) :
    PtTy (w.alloc (.cells #[sv n, .slice s.1 s.2.1 s.2.2] 30)) (Lt (w.alloc (.cells #[sv n, .slice s.1 s.2.1 s.2.2] 30)).heap.size) ⟨w.heap.size, 0, none⟩ t := by
  have h1 := alloc1 w (.cells #[sv n, .slice s.1 s.2.1 s.2.2] 30)
  exact ⟨_, _, lt_of_heap h1, (Lib.cell_of_heap h1 _).trans rfl, (Lib.cell_of_heap h1 _).trans rfl, h.now (Nat.le_refl _) ((Below.refl _ _).alloc (Nat.le_refl _) _)⟩

set_option maxHeartbeats 4000000 in
set_option maxRecDepth 100000 in
theorem tnodes_any (L : List Ty) (Q : Ty → Prop) (hQ : Down Q) (hQL : ∀ n u, solv L n = some u → Q u) (ρ : Ty → Nat) (hr : Rank (solv L) ρ) (θ : Nat → Ty) (hθ : Appl (solv L) θ) (LA : Option Addr) (lc : Nat) (vs : List (Value × Value))
    (t : Ty) (u v : Value) (w : World) (hT : Tys w (Lt w.heap.size) LA L vs) (ht : TyIs w (Lt w.heap.size) t u v) (hl : L.length ≤ 4000000) (hq : Q t) :
    Calls Tryd.prog 23 #[.slice LA L.length lc, .agg #[u, v]] w fun e w' => e = .returned (.int .i64 ((capS (sub θ t).size : Nat) : Int)) ∧ Below w.heap.size w w' := by
  obtain ⟨n, s, rfl, rfl⟩ := ht.shape
  have hb1 : Below w.heap.size w (w.alloc (.cells #[sv n, .slice s.1 s.2.1 s.2.2] 30)) := (Below.refl _ _).alloc (Nat.le_refl _) _
  have hp := ptBox ht
  have CN := Lib.hid (counter_any (Lt (w.alloc (.cells #[sv n, .slice s.1 s.2.1 s.2.2] 30)).heap.size) L LA lc vs (w.alloc (.cells #[sv n, .slice s.1 s.2.1 s.2.2] 30)) ((hT.keep (kept_below hb1)).more fun _ h => Nat.lt_of_lt_of_le h hb1.size) (fun _ h => h) hl)
  obtain ⟨m, hm⟩ : ∃ m, m = L.length := ⟨_, rfl⟩
  rw [← hm] at CN ⊢
  have HP := Lib.hid hp
  have HB1 := Lib.hid hb1
  clear hm hp hb1 hT ht
  go_enter Tryd.func23, Tryd.ntmps23
  go_wp2_with fail
  refine CN.out.mono ?_
  generalize w.alloc (.cells #[sv n, .slice s.1 s.2.1 s.2.2] 30) = w1 at *
  rintro e w2 ⟨cp, gb, mb, rfl, hct, hm, hb2, hmb⟩
  have hp2 := HP.out.keep (kept_below hb2)
  have NOD := Lib.hid (nodes_any cp gb mb (Lt w1.heap.size) L Q hQ hQL ρ hr θ hθ (ρ t) t _ [] w2 (Nat.le_refl _) hct hp2 hq hm (fun x hx => by cases hx))
  have HB2 := Lib.hid hb2
  have HMB := Lib.hid hmb
  clear hct hm hb2 hmb hp2
  obtain ⟨x, hx⟩ : ∃ x, x = capS (sub θ t).size := ⟨_, rfl⟩
  have HX := Lib.hid hx
  have hx200 : x ≤ 201 := by rw [hx]; exact capS_le _
  unfold NodRes at NOD
  rw [← hx] at NOD
  clear hx
  go_wp2_with fail
  refine NOD.out.mono ?_
  rintro e w3 ⟨N, rfl, _, _, hk⟩
  have HB3 : Hid (Below w.heap.size w w3) := Lib.hid (by
    have h1 := HB1.out
    have h2 := HB2.out
    have h3 := HMB.out
    exact (h1.trans (h2.mono h1.size)).trans ⟨hk.os, hk.tape, hk.output, hk.size, fun y hy => hk.block y (by have := h1.size; have := h2.size; omega) (by have := h1.size; omega)⟩)
  clear hk
  go_wp2
  go_ret
  refine ⟨?_, HB3.out⟩
  rw [← HX.out]
  refine congrArg (fun z : Int => Ending.returned (.int .i64 z)) ?_
  show min (x : Int) 201 = x
  omega

set_option maxHeartbeats 8000000 in
set_option maxRecDepth 100000 in
theorem tapply_any (L : List Ty) (Q : Ty → Prop) (hQ : Down Q) (hQL : ∀ n u, solv L n = some u → Q u) (ρ : Ty → Nat) (hr : Rank (solv L) ρ) (θ : Nat → Ty) (hθ : Appl (solv L) θ) (LA : Option Addr) (lc : Nat) (vs : List (Value × Value))
    (t : Ty) (u v : Value) (w : World) (hT : Tys w (Lt w.heap.size) LA L vs) (ht : TyIs w (Lt w.heap.size) t u v) (hl : L.length ≤ 4000000) (hq : Q t) :
    Calls Tryd.prog 25 #[.slice LA L.length lc, .agg #[u, v]] w (MadeTy (appT θ t) w) := by
  obtain ⟨n, s, rfl, rfl⟩ := ht.shape
  have hb0 : Below w.heap.size w (w.alloc (.cells #[sv n, .slice s.1 s.2.1 s.2.2] 30)) := (Below.refl _ _).alloc (Nat.le_refl _) _
  have hb1 : Below w.heap.size w ((w.alloc (.cells #[sv n, .slice s.1 s.2.1 s.2.2] 30)).alloc (.cells #[.string ⟨#[]⟩, .slice none 0 0] 30)) := hb0.alloc (by simp) _
  have hb01 : Below (w.alloc (.cells #[sv n, .slice s.1 s.2.1 s.2.2] 30)).heap.size (w.alloc (.cells #[sv n, .slice s.1 s.2.1 s.2.2] 30)) ((w.alloc (.cells #[sv n, .slice s.1 s.2.1 s.2.2] 30)).alloc (.cells #[.string ⟨#[]⟩, .slice none 0 0] 30)) := (Below.refl _ _).alloc (Nat.le_refl _) _
  have hp : PtTy ((w.alloc (.cells #[sv n, .slice s.1 s.2.1 s.2.2] 30)).alloc (.cells #[.string ⟨#[]⟩, .slice none 0 0] 30)) (Lt (w.heap.size + 1)) ⟨w.heap.size, 0, none⟩ t := by
    have := (ptBox ht).keep (kept_below hb01)
    simpa using this
  have hR := (alloc2 w (.cells #[sv n, .slice s.1 s.2.1 s.2.2] 30) (.cells #[.string ⟨#[]⟩, .slice none 0 0] 30)).2
  have CN := Lib.hid (counter_any (Lt (w.heap.size + 1)) L LA lc vs ((w.alloc (.cells #[sv n, .slice s.1 s.2.1 s.2.2] 30)).alloc (.cells #[.string ⟨#[]⟩, .slice none 0 0] 30)) ((hT.keep (kept_below hb1)).more fun _ h => by have : _ < w.heap.size := h; show _ < w.heap.size + 1; omega) (fun _ h => by have : _ < w.heap.size + 1 := h; simp; omega) hl)
  have hsz : ((w.alloc (.cells #[sv n, .slice s.1 s.2.1 s.2.2] 30)).alloc (.cells #[.string ⟨#[]⟩, .slice none 0 0] 30)).heap.size = w.heap.size + 2 := by simp
  obtain ⟨m, hm⟩ : ∃ m, m = L.length := ⟨_, rfl⟩
  rw [← hm] at CN ⊢
  have HP := Lib.hid hp
  have HB1 := Lib.hid hb1
  have HR := Lib.hid hR
  have HSZ := Lib.hid hsz
  clear hm hp hb1 hT ht hR hb01 hb0 hsz
  go_enter Tryd.func25, Tryd.ntmps25
  go_wp2_with fail
  refine CN.out.mono ?_
  generalize (w.alloc (.cells #[sv n, .slice s.1 s.2.1 s.2.2] 30)).alloc (.cells #[.string ⟨#[]⟩, .slice none 0 0] 30) = w1 at *
  rintro e w2 ⟨cp, gb, mb, rfl, hct, hm, hb2, hmb⟩
  have hp2 := HP.out.keep ((kept_below hb2).sub fun _ h => by have : _ < w.heap.size + 1 := h; have := HSZ.out; show _ < w1.heap.size; omega)
  have AP := Lib.hid (capply_any cp gb mb (Lt (w.heap.size + 1)) L Q hQ hQL ρ hr θ hθ t _ w2 hct hp2 hq hm)
  have HB2 := Lib.hid hb2
  have hsz1 := HSZ.out
  have hsz2 := hb2.size
  have hR2 := (hb2.block _ (lt_of_heap HR.out)).trans HR.out
  have HR2 := Lib.hid hR2
  clear hct hm hb2 hp2 hR2
  go_wp2_with fail
  refine AP.out.mono ?_
  rintro e w3 ⟨u1, v1, rfl, hT, hk⟩
  obtain ⟨u1, v1, rfl, rfl⟩ := hT.shape
  have hR3 := hk.heap HR2.out (by omega)
  have r0 : w3.cell? ⟨w.heap.size + 1, 0, none⟩ = some (.string ⟨#[]⟩) := (Lib.cell_of_heap hR3 _).trans rfl
  have r1 : w3.cell? ⟨w.heap.size + 1, 1, none⟩ = some (.slice none 0 0) := (Lib.cell_of_heap hR3 _).trans rfl
  have z0 : w3.frozen? ⟨w.heap.size + 1, 0, none⟩ = false := Lib.frozen_of_heap hR3 0
  have z1 : w3.frozen? ⟨w.heap.size + 1, 1, none⟩ = false := Lib.frozen_of_heap hR3 1
  have HB3 : Hid (Below w.heap.size w w3) := Lib.hid (by
    have h1 := HB1.out
    have h2 := HB2.out
    exact (h1.trans (h2.mono h1.size)).trans ⟨hk.os, hk.tape, hk.output, hk.size, fun y hy => hk.block y (by have := h1.size; have := h2.size; omega) (by omega)⟩)
  have HT := Lib.hid hT
  have HR3 := Lib.hid hR3
  have hsz3 := hk.size
  clear hT hR3 hk
  go_wp2_with fail
  have hR4 : ((w3.setCell ⟨w.heap.size + 1, 0, none⟩ (.string (bs u1))).setCell ⟨w.heap.size + 1, 1, none⟩ (.slice v1.1 v1.2.1 v1.2.2)).heap[w.heap.size + 1]? = some (.cells #[sv u1, .slice v1.1 v1.2.1 v1.2.2] 30 (0, 0)) := setCell_heap (setCell_heap HR3.out)
  have q0 : ((w3.setCell ⟨w.heap.size + 1, 0, none⟩ (.string (bs u1))).setCell ⟨w.heap.size + 1, 1, none⟩ (.slice v1.1 v1.2.1 v1.2.2)).cell? ⟨w.heap.size + 1, 0, none⟩ = some (sv u1) := (Lib.cell_of_heap hR4 _).trans rfl
  have q1 : ((w3.setCell ⟨w.heap.size + 1, 0, none⟩ (.string (bs u1))).setCell ⟨w.heap.size + 1, 1, none⟩ (.slice v1.1 v1.2.1 v1.2.2)).cell? ⟨w.heap.size + 1, 1, none⟩ = some (.slice v1.1 v1.2.1 v1.2.2) := (Lib.cell_of_heap hR4 _).trans rfl
  refine bodyPost_ret (v := .agg #[sv u1, .slice v1.1 v1.2.1 v1.2.2]) ?_ rfl ?_
  · clear HT HB3 HR3 hR4 CN AP HP HB1 HB2 HR HR2 HSZ
    simp [results, Tryd.results25, go_sem, q0, q1]
  · refine ⟨_, _, rfl, ?_, (HB3.out.setCell (by simp) _).setCell (by simp) _⟩
    refine (HT.out.keep (Kept.trans (keptGrown (row := some (w.heap.size + 1)) grownSet fun x hx => ⟨hx.2, ?_⟩) (keptGrown (row := some (w.heap.size + 1)) grownSet fun x hx => ⟨by rw [sizeSet]; exact hx.2, ?_⟩))).more fun x hx => ⟨?_, ?_⟩
    · intro e; injection e with e; have := hx.1; omega
    · intro e; injection e with e; have := hx.1; omega
    · have := hx.1; omega
    · have := hx.2; simp only [sizeSet]; omega
end
end Go.Proofs.YtndhglcdkegigaaDoor
