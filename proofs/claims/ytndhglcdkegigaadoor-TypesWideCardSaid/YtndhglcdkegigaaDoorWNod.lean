/-
  The walk of ref09.apply: a solution applied to a type.
  Conditions: names are good, all the way down; there is a rank.
  The walks of ref09.Nodes and Apply.
  Conditions: names are good, all the way down; there is a rank.
-/
import Derived.Test.YtndhglcdkegigaaDoorWCnt
import Derived.Test.YtndhglcdkegigaaDoorCtr
import Derived.Test.YtndhglcdkegigaaDoorSolve
namespace Go.Proofs.YtndhglcdkegigaaDoor
section
open Go.RowKit
/-- A solution in memory. -/
structure TK (w : World) (S : Nat → Prop) (LA : Option Addr) (L : List Ty) (vs : List (Value × Value)) : Prop where
  tys : Tys w S LA L vs
  lt : ∀ b, S b → b < w.heap.size
theorem TK.kept {w w' : World} {S : Nat → Prop} {LA : Option Addr} {L : List Ty} {vs : List (Value × Value)} (h : TK w S LA L vs) (hb : Below w.heap.size w w') : Kept S w w' := (kept_below hb).sub h.lt
theorem TK.below {w w' : World} {S : Nat → Prop} {LA : Option Addr} {L : List Ty} {vs : List (Value × Value)} (h : TK w S LA L vs) (hb : Below w.heap.size w w') : TK w' S LA L vs :=
  ⟨h.tys.keep (h.kept hb), fun b hS => Nat.lt_of_lt_of_le (h.lt b hS) hb.size⟩

set_option maxHeartbeats 8000000 in
set_option maxRecDepth 100000 in
theorem rapply_any (S : Nat → Prop) (L : List Ty) (LA : Option Addr) (lc : Nat) (vs : List (Value × Value)) (Q : Ty → Prop) (hQ : Down Q) (hQL : ∀ n u, solv L n = some u → Q u) (ρ : Ty → Nat) (hr : Rank (solv L) ρ) (θ : Nat → Ty) (hθ : Appl (solv L) θ) :
    ∀ (D : Nat) (t : Ty) (u v : Value) (w : World), ρ t ≤ D → TK w S LA L vs → TyIs w S t u v → Q t →
    Calls Tryd.prog 51 #[.slice LA L.length lc, .agg #[u, v]] w (MadeTy (sub θ t) w) := by
  intro D
  induction D using Nat.strongRecOn with | ind D ih => ?_
  intro t u v w hD htk hty hq
  have IH := Lib.hid ih
  have HTY := Lib.hid hty
  obtain ⟨A, c, vs', rfl, rfl, hnl, hl, hc1, hc2, hTS⟩ := hty.open_
  obtain ⟨m, hmm⟩ : ∃ m, m = t.args.length := ⟨_, rfl⟩
  have hbx : Below w.heap.size w (w.alloc (.cells #[sv t.name, .slice A t.args.length c] 30)) := (Below.refl _ _).alloc (Nat.le_refl _) _
  have hX0 := alloc1 w (.cells #[sv t.name, .slice A t.args.length c] 30)
  have hsx : (w.alloc (.cells #[sv t.name, .slice A t.args.length c] 30)).heap.size = w.heap.size + 1 := by exact Array.size_push _
  have hR0 := alloc1 (w.alloc (.cells #[sv t.name, .slice A t.args.length c] 30)) (.cells #[.string ⟨#[]⟩, .slice none 0 0] 30)
  have hby : Below (w.alloc (.cells #[sv t.name, .slice A t.args.length c] 30)).heap.size (w.alloc (.cells #[sv t.name, .slice A t.args.length c] 30)) ((w.alloc (.cells #[sv t.name, .slice A t.args.length c] 30)).alloc (.cells #[.string ⟨#[]⟩, .slice none 0 0] 30)) := (Below.refl _ _).alloc (Nat.le_refl _) _
  have hX0 := (hby.block w.heap.size (by rw [hsx]; omega)).trans hX0
  have hb0 := hbx.trans (hby.mono hbx.size)
  rw [hsx] at hR0
  have RV := rvar_any t.name A t.args.length c ((w.alloc (.cells #[sv t.name, .slice A t.args.length c] 30)).alloc (.cells #[.string ⟨#[]⟩, .slice none 0 0] 30)) (hQ.name t hq) hl
  rw [← varOf_mk, show Ty.mk t.name t.args = t from by cases t; rfl] at RV
  have RVH := Lib.hid RV
  obtain ⟨ll, hll⟩ : ∃ ll, ll = L.length := ⟨_, rfl⟩
  rw [← hll]
  rw [← hmm] at RVH hb0 hX0 hR0 hl hc1 ⊢
  have HLL := Lib.hid hll
  have HMM := Lib.hid hmm
  clear hbx hby hsx hmm hll ih RV hty
  go_enter Tryd.func51, Tryd.ntmps51
  go_wp2_with fail
  refine RVH.out.mono ?_
  generalize (w.alloc (.cells #[sv t.name, .slice A m c] 30)).alloc (.cells #[.string ⟨#[]⟩, .slice none 0 0] 30) = w0 at *
  rintro e w1 ⟨rfl, hb1⟩
  have hbw1 := hb0.trans (hb1.mono hb0.size)
  have hR1 := (hb1.block _ (lt_of_heap hR0)).trans hR0
  have hX1 := (hb1.block _ (lt_of_heap hX0)).trans hX0
  have x0 : w1.cell? ⟨w.heap.size, 0, none⟩ = some (sv t.name) := (Lib.cell_of_heap hX1 _).trans rfl
  have x1 : w1.cell? ⟨w.heap.size, 1, none⟩ = some (.slice A m c) := (Lib.cell_of_heap hX1 _).trans rfl
  have HTK1 := Lib.hid (htk.below hbw1)
  have HT1 := Lib.hid (HTY.out.keep (htk.kept hbw1))
  have HTS1 := Lib.hid (hTS.keep (htk.kept hbw1))
  have hRl := lt_of_heap hR1
  have HR1 := Lib.hid hR1
  have HX1 := Lib.hid hX1
  have HBW1 := Lib.hid hbw1
  clear hb0 hb1 hR0 hX0 hR1 hX1 hbw1 hTS HTY RVH
  by_cases hh : ∃ k x, varOf t = some k ∧ solv L k = some x
  · obtain ⟨k, x, hv, hs⟩ := hh
    have hk100 := varOf_lt (hQ.name t hq) hv
    have hsu : sub θ t = sub θ x := by rw [sub_var hv, hθ.sat k x hs]
    have hru := hr.given t k x hv hs
    have RG := rget_any k S L LA lc vs w1 HTK1.out.tys HTK1.out.lt (by omega)
    rw [hs, ← HLL.out] at RG
    have HRG := Lib.hid RG
    rw [hv]
    simp only [varI, Option.isSome_some]
    have HS := Lib.hid hs
    have HSU := Lib.hid hsu
    clear RG hs hsu hv
    go_wp2_with fail
    refine HRG.out.mono ?_
    rintro e w2 ⟨hb2, un, vv, rfl, hty2⟩
    obtain ⟨un, va, rfl, rfl⟩ := hty2.shape
    have hb3 : Below w2.heap.size w2 (w2.alloc (.cells #[sv un, .slice va.1 va.2.1 va.2.2] 30)) := (Below.refl _ _).alloc (Nat.le_refl _) _
    have hb23 := hb2.trans (hb3.mono hb2.size)
    have CALL := IH.out (ρ x) (by omega) x (sv un) (.slice va.1 va.2.1 va.2.2) (w2.alloc (.cells #[sv un, .slice va.1 va.2.1 va.2.2] 30)) (Nat.le_refl _) (HTK1.out.below hb23) (hty2.keep (HTK1.out.kept hb23)) (hQL k x HS.out)
    rw [← HLL.out] at CALL
    have CALL := Lib.hid CALL
    have HB23 := Lib.hid hb23
    have hs23 : w2.heap.size + 1 = (w2.alloc (.cells #[sv un, .slice va.1 va.2.1 va.2.2] 30)).heap.size := (Array.size_push _).symm
    have hs12 := hb2.size
    clear hb2 hb3 hb23 hty2 HRG
    go_wp2_with fail
    refine CALL.out.mono ?_
    rintro e w3 ⟨u1, v1, rfl, hT, hb4⟩
    obtain ⟨u1, v1, rfl, rfl⟩ := hT.shape
    have hb13 := HB23.out.trans (hb4.mono HB23.out.size)
    have hsz1 := HB23.out.size
    have hR2 := (hb13.block _ hRl).trans HR1.out
    have r0 : w3.cell? ⟨w.heap.size + 1, 0, none⟩ = some (.string ⟨#[]⟩) := (Lib.cell_of_heap hR2 _).trans rfl
    have r1 : w3.cell? ⟨w.heap.size + 1, 1, none⟩ = some (.slice none 0 0) := (Lib.cell_of_heap hR2 _).trans rfl
    have z0 : w3.frozen? ⟨w.heap.size + 1, 0, none⟩ = false := Lib.frozen_of_heap hR2 0
    have z1 : w3.frozen? ⟨w.heap.size + 1, 1, none⟩ = false := Lib.frozen_of_heap hR2 1
    have HT := Lib.hid hT
    have HB2 := Lib.hid (HBW1.out.trans (hb13.mono HBW1.out.size))
    have HR2 := Lib.hid hR2
    have hsz2 := hb4.size
    have hsw := HBW1.out.size
    clear hT hb4 hb13 hR2
    go_wp2_with fail
    have hR3 : ((w3.setCell ⟨w.heap.size + 1, 0, none⟩ (.string (bs u1))).setCell ⟨w.heap.size + 1, 1, none⟩ (.slice v1.1 v1.2.1 v1.2.2)).heap[w.heap.size + 1]? = some (.cells #[sv u1, .slice v1.1 v1.2.1 v1.2.2] 30 (0, 0)) := setCell_heap (setCell_heap HR2.out)
    have q0 : ((w3.setCell ⟨w.heap.size + 1, 0, none⟩ (.string (bs u1))).setCell ⟨w.heap.size + 1, 1, none⟩ (.slice v1.1 v1.2.1 v1.2.2)).cell? ⟨w.heap.size + 1, 0, none⟩ = some (sv u1) := (Lib.cell_of_heap hR3 _).trans rfl
    have q1 : ((w3.setCell ⟨w.heap.size + 1, 0, none⟩ (.string (bs u1))).setCell ⟨w.heap.size + 1, 1, none⟩ (.slice v1.1 v1.2.1 v1.2.2)).cell? ⟨w.heap.size + 1, 1, none⟩ = some (.slice v1.1 v1.2.1 v1.2.2) := (Lib.cell_of_heap hR3 _).trans rfl
    refine bodyPost_ret (v := .agg #[sv u1, .slice v1.1 v1.2.1 v1.2.2]) ?_ rfl ?_
    · clear HT HB2 HR2 hR3 IH CALL HS
      simp [results, Tryd.results51, go_sem, q0, q1]
    · refine ⟨_, _, rfl, ?_, (HB2.out.setCell (by simp) _).setCell (by simp) _⟩
      rw [HSU.out]
      refine (HT.out.keep (Kept.trans (keptGrown (row := some (w.heap.size + 1)) grownSet fun x hx => ⟨hx.2, ?_⟩) (keptGrown (row := some (w.heap.size + 1)) grownSet fun x hx => ⟨by rw [sizeSet]; exact hx.2, ?_⟩))).more fun x hx => ⟨?_, ?_⟩
      · intro e; injection e with e; have := hx.1; rw [← hs23] at this; omega
      · intro e; injection e with e; have := hx.1; rw [← hs23] at this; omega
      · have := hx.1; rw [← hs23] at this; omega
      · have := hx.2; simp only [sizeSet]; omega
  · have hfree : ∀ k, varOf t = some k → solv L k = none := fun k hv => by
      cases hs : solv L k with
      | none => rfl
      | some x => exact absurd ⟨k, x, hv, hs⟩ hh
    have hnode : sub θ t = .mk t.name (t.args.map (sub θ)) := by
      cases hv : varOf t with
      | none => exact sub_node hv
      | some k =>
        have hs : solv L k = none := by
          cases hs : solv L k with
          | none => rfl
          | some u => exact absurd ⟨k, u, hv, hs⟩ hh
        have hk : t = tyV k := good_tyV (hQ.name t hq) hv
        rw [sub_var hv, hθ.free k hs, hk]
        rfl
    cases hv : varOf t with
    | some k =>
      have hs := hfree k hv
      have hk100 := varOf_lt (hQ.name t hq) hv
      have hst : sub θ t = t := by rw [sub_var hv, hθ.free k hs]; exact (good_tyV (hQ.name t hq) hv).symm
      have ha0 : t.args = [] := varOf_args hv
      have hm0 : m = 0 := by rw [HMM.out, ha0]; rfl
      have RG := rget_any k S L LA lc vs w1 HTK1.out.tys HTK1.out.lt (by omega)
      rw [hs, ← HLL.out] at RG
      have HRG := Lib.hid RG
      have HST := Lib.hid hst
      have HA0 := Lib.hid ha0
      simp only [varI, Option.isSome_some]
      clear RG hs hst hv hfree hnode hh ha0
      subst hm0
      go_wp2_with fail
      refine HRG.out.mono ?_
      rintro e w2 ⟨hb2, rfl⟩
      obtain ⟨w3, hw3⟩ : ∃ w3, w3 = w2.alloc (.cells #[.string ⟨#[]⟩, .slice none 0 0] 30) := ⟨_, rfl⟩
      have hb3 : Below w2.heap.size w2 w3 := by rw [hw3]; exact (Below.refl _ _).alloc (Nat.le_refl _) _
      have hb23 := hb2.trans (hb3.mono hb2.size)
      have hR2 := (hb23.block _ hRl).trans HR1.out
      have hX2 := (hb23.block _ (lt_of_heap HX1.out)).trans HX1.out
      have hsw := HBW1.out.size
      have hs12 := hb2.size
      have hs23 := hb3.size
      have HB2 := Lib.hid (HBW1.out.trans (hb23.mono HBW1.out.size))
      rw [hw3] at hR2 hX2
      have x0 := (Lib.cell_of_heap hX2 0).trans rfl
      have x1 := (Lib.cell_of_heap hX2 1).trans rfl
      have r0 := (Lib.cell_of_heap hR2 0).trans rfl
      have r1 := (Lib.cell_of_heap hR2 1).trans rfl
      have z0 := Lib.frozen_of_heap hR2 0
      have z1 := Lib.frozen_of_heap hR2 1
      have HR2 := Lib.hid hR2
      have HW3 := Lib.hid hw3
      clear hb2 hb3 hb23 hR2 hX2 hw3
      go_wp2_with fail
      have hR3 : (((w2.alloc (.cells #[.string ⟨#[]⟩, .slice none 0 0] 30)).setCell ⟨w.heap.size + 1, 0, none⟩ (.string (bs t.name))).setCell ⟨w.heap.size + 1, 1, none⟩ (.slice A 0 c)).heap[w.heap.size + 1]? = some (.cells #[sv t.name, .slice A 0 c] 30 (0, 0)) := setCell_heap (setCell_heap HR2.out)
      have q0 : (((w2.alloc (.cells #[.string ⟨#[]⟩, .slice none 0 0] 30)).setCell ⟨w.heap.size + 1, 0, none⟩ (.string (bs t.name))).setCell ⟨w.heap.size + 1, 1, none⟩ (.slice A 0 c)).cell? ⟨w.heap.size + 1, 0, none⟩ = some (sv t.name) := (Lib.cell_of_heap hR3 _).trans rfl
      have q1 : (((w2.alloc (.cells #[.string ⟨#[]⟩, .slice none 0 0] 30)).setCell ⟨w.heap.size + 1, 0, none⟩ (.string (bs t.name))).setCell ⟨w.heap.size + 1, 1, none⟩ (.slice A 0 c)).cell? ⟨w.heap.size + 1, 1, none⟩ = some (.slice A 0 c) := (Lib.cell_of_heap hR3 _).trans rfl
      refine bodyPost_ret (v := .agg #[sv t.name, .slice A 0 c]) ?_ rfl ?_
      · clear HB2 HR2 hR3 IH
        simp [results, Tryd.results51, go_sem, q0, q1]
      · refine ⟨_, _, rfl, ?_, by rw [← HW3.out]; exact (HB2.out.setCell (by simp) _).setCell (by simp) _⟩
        rw [HST.out]
        have hz := (Tys.nil (((w2.alloc (.cells #[.string ⟨#[]⟩, .slice none 0 0] 30)).setCell ⟨w.heap.size + 1, 0, none⟩ (.string (bs t.name))).setCell ⟨w.heap.size + 1, 1, none⟩ (.slice A 0 c)) (Fr w.heap.size (((w2.alloc (.cells #[.string ⟨#[]⟩, .slice none 0 0] 30)).setCell ⟨w.heap.size + 1, 0, none⟩ (.string (bs t.name))).setCell ⟨w.heap.size + 1, 1, none⟩ (.slice A 0 c)).heap.size) A).close (n := t.name) (c := c) hnl (Nat.zero_le _) ⟨Nat.zero_le _, hc2⟩
        rw [show Ty.mk t.name [] = t from by rw [← HA0.out]; cases t; rfl] at hz
        exact hz
    | none =>
      obtain ⟨ks, hks⟩ : ∃ ks, ks = t.args.map (sub θ) := ⟨_, rfl⟩
      have hkl : ks.length = m := by rw [hks, HMM.out]; simp
      have hka : ∀ k a, t.args[k]? = some a → ks[k]? = some (sub θ a) := fun k a h => by rw [hks, List.getElem?_map, h]; rfl
      have HKL := Lib.hid hkl
      have HKA := Lib.hid hka
      have HNL := Lib.hid hnl
      rw [← hks] at hnode
      have HND := Lib.hid hnode
      simp only [varI, Option.isSome_none]
      generalize hnm : t.name = n at *
      clear hks hkl hka hnode hnl hv hfree hh
      obtain ⟨i0, hi, hz0, hz1, hz2⟩ := info_parts infoT
      go_wp2_with fail
      go_loopw [10] (fun i wr => ∃ k : Nat, k ≤ m ∧ i = .int .i64 k ∧ OutIs w1.heap.size n (ks.take k) wr ∧ Below w1.heap.size w1 wr) (fun i _ => m - (intOf i).toNat)
      case atStart =>
        refine ⟨0, Nat.zero_le _, rfl, OutIs.fresh ?_, ?_⟩
        · exact alloc1 w1 _
        · exact (Below.refl _ _).alloc (Nat.le_refl _) _
      case round =>
        obtain ⟨k, hk, rfl, ho, hb⟩ := hrel
        obtain ⟨ov, vs', ho'⟩ := ho
        have hl2 := ho'.len
        have hB := ho'.blk
        have c0 : wr.cell? ⟨w1.heap.size, 0, none⟩ = some (sv n) := by rw [Lib.cell_of_heap hB]; rfl
        have c1 : wr.cell? ⟨w1.heap.size, 1, none⟩ = some ov := by rw [Lib.cell_of_heap hB]; rfl
        have f1 : wr.frozen? ⟨w1.heap.size, 1, none⟩ = false := Lib.frozen_of_heap hB 1
        have hXr := (hb.block _ (lt_of_heap HX1.out)).trans HX1.out
        have ep : wr.cell? ⟨w.heap.size, 1, none⟩ = some (.slice A m c) := (Lib.cell_of_heap hXr _).trans rfl
        have hctr := HTK1.out.below hb
        have hts := HTS1.out.keep (HTK1.out.kept hb)
        by_cases hlt : k < m
        · have hki : k < t.args.length := by rw [← HMM.out]; exact hlt
          obtain ⟨ad, u, v, rfl, hSa, ea0, ea1, htya⟩ := hts.at_ (List.getElem?_eq_getElem hki)
          obtain ⟨u, v, rfl, rfl⟩ := htya.shape
          have hadl := hctr.lt _ hSa
          have hmem : t.args[k] ∈ t.args := List.getElem_mem hki
          have hrk := hr.arg t _ hmem
          have hk1 := HKA.out k _ (List.getElem?_eq_getElem hki)
          have CALL := IH.out (ρ t.args[k]) (by omega) t.args[k] (sv u) (.slice v.1 v.2.1 v.2.2) wr.drew (Nat.le_refl _) (hctr.below (Below.refl _ _).drew) (htya.keep fun _ _ => rfl) (hQ.arg t _ hq hmem)
          rw [← HLL.out] at CALL
          have CALL := Lib.hid CALL
          have HO := Lib.hid ho'
          have HK1 := Lib.hid hk1
          have hsz := hb.size
          have hlt2 := lt_of_heap hB
          have hik : (0 : Int) ≤ (k : Int) ∧ (k : Int) < (m : Int) := ⟨by omega, by omega⟩
          clear hB ho' hl2 hk1 htya hmem hctr hts hXr
          go_wp2_with fail
          refine wp_region_held' (fun w' => w'.cell? ⟨w1.heap.size, 1, none⟩ = some ov ∧ w'.cell? ⟨w.heap.size, 1, none⟩ = some (.slice (some ad) m c) ∧ w'.cell? (ad.add (k * 2)) = some (sv u) ∧ w'.cell? ⟨(ad.add (k * 2)).block, (ad.add (k * 2)).off + 1, none⟩ = some (.slice v.1 v.2.1 v.2.2)) [] [0, 1, 2, 3, 4, 5, 6, 7] [8, 9] [10, 11, 12] (by kernel_rfl) (by kernel_rfl) ?s0 ?h0
          case s0 => exact ⟨c1, ep, ea0, ea1⟩
          case h0 =>
            simp only [opsAt, List.filterMap_cons, List.filterMap_nil, List.getElem?_toArray, List.getElem?_cons_succ, List.getElem?_cons_zero]
            refine wpFloat_nil ?_
            refine wpLoad_step ?va0 rfl (fun w' hS => ?ya0) ?ka0
            case ya0 =>
              obtain ⟨h1, h2, h3, h4⟩ := hS
              go_simp
              try rfl
            case ka0 =>
            go_simp
            refine wpLoad_step ?va1 rfl (fun w' hS => ?ya1) ?ka1
            case ya1 =>
              obtain ⟨h1, h2, h3, h4⟩ := hS
              go_simp
              try rfl
            case ka1 =>
            go_simp
            refine wpLoad_step ?va2 rfl (fun w' hS => ?ya2) ?ka2
            case ya2 =>
              obtain ⟨h1, h2, h3, h4⟩ := hS
              go_simp
              try rfl
            case ka2 =>
            go_simp
            refine wpLoad_step ?va3 rfl (fun w' hS => ?ya3) ?ka3
            case ya3 =>
              obtain ⟨h1, h2, h3, h4⟩ := hS
              go_simp
              try rfl
            case ka3 =>
            go_simp
            refine wpLoad_step ?va4 rfl (fun w' hS => ?ya4) ?ka4
            case ya4 =>
              obtain ⟨h1, h2, h3, h4⟩ := hS
              go_simp
              try rfl
            case ka4 =>
            go_simp
            refine wpLoad_step ?va5 rfl (fun w' hS => ?ya5) ?ka5
            case ya5 =>
              obtain ⟨h1, h2, h3, h4⟩ := hS
              go_simp
              try rfl
            case ka5 =>
            go_simp
            refine wpLoad_step ?va6 rfl (fun w' hS => ?ya6) ?ka6
            case ya6 =>
              obtain ⟨h1, h2, h3, h4⟩ := hS
              go_simp
              try rfl
            case ka6 =>
            go_simp
            refine wpLoad_step ?va7 rfl (fun w' hS => ?ya7) ?ka7
            case ya7 =>
              obtain ⟨h1, h2, h3, h4⟩ := hS
              go_simp
              try rfl
            case ka7 =>
            go_simp
            refine wpLoad_nil ?_
            refine wpKeep_step rfl ?_
            go_simp
            refine CALL.out.mono ?_
            rintro e w2 ⟨u1, v1, rfl, hT1, hb2⟩
            obtain ⟨u1, v1, rfl, rfl⟩ := hT1.shape
            have hb2 : Below wr.heap.size wr w2 := ((Below.refl _ _).drew).trans hb2
            have hzw : wr.heap.size ≤ w2.heap.size := hb2.size
            have HT1 : Hid (TyIs w2 (Fr wr.heap.size w2.heap.size) (sub θ t.args[k]) (sv u1) (.slice v1.1 v1.2.1 v1.2.2)) := Lib.hid hT1
            clear hT1
            have d1 : w2.cell? ⟨w1.heap.size, 1, none⟩ = some ov := (hb2.cell (p := ⟨w1.heap.size, 1, none⟩) hlt2).trans c1
            have d2 : w2.cell? ⟨w.heap.size, 1, none⟩ = some (.slice (some ad) m c) := (hb2.cell (p := ⟨w.heap.size, 1, none⟩) (Nat.lt_of_lt_of_le (lt_of_heap HX1.out) hsz)).trans ep
            have d3 : w2.cell? (ad.add (k * 2)) = some (sv u) := (hb2.cell (p := ad.add (k * 2)) (by rw [blkAdd]; exact hadl)).trans ea0
            have d4 : w2.cell? ⟨(ad.add (k * 2)).block, (ad.add (k * 2)).off + 1, none⟩ = some (.slice v.1 v.2.1 v.2.2) := (hb2.cell (p := ⟨(ad.add (k * 2)).block, (ad.add (k * 2)).off + 1, none⟩) (by rw [blkAdd]; exact hadl)).trans ea1
            have hw1l := lt_of_heap HX1.out
            refine ⟨⟨d1, d2, d3, d4⟩, ?_⟩
            refine wpKeep_step rfl ?_
            go_simp
            have hl3 : (ad.add (k * 2)).block < w2.heap.size := by rw [blkAdd]; omega
            refine ⟨⟨(cellAlloc (by omega)).trans d1, (cellAlloc (by omega)).trans d2, (World.cell?_of_block (a := ad.add (k * 2)) (heap_alloc_old _ _ hl3)).trans d3, (cellAlloc hl3).trans d4⟩, ?_⟩
            refine wpKeep_nil ?_
            have hbW : Below wr.heap.size wr (w2.alloc (.cells #[sv u1, .slice v1.1 v1.2.1 v1.2.2] 30)) := hb2.alloc (by omega) _
            have hO2 := HO.out.kept (grownOfBelow hbW) (.inl rfl)
            have hlk : (ks.take k).length = k := by rw [List.length_take, HKL.out]; omega
            have hown2 := hO2.own
            rw [hlk] at hown2
            have HO2 := Lib.hid hO2
            have HLK := Lib.hid hlk
            clear hO2 hlk
            refine (wpList_append_lies _ rfl _ _ 28 rfl (w1.heap.size + 1) 30 i0 _ 2 40 Tryd.underlying28 hi hz0 hz1 hz2 rfl (by omega) ov k (flat2 vs') rfl hown2 ⟨w2.heap.size, 0, none⟩ 1 1 [sv u1, .slice v1.1 v1.2.1 v1.2.2] rfl rfl ?c1 ?c2 (by omega) ?c3 ?c4 ?c5 _ rfl ?_)
            case c1 => exact World.news_of_block (cs := #[sv u1, .slice v1.1 v1.2.1 v1.2.2]) (alloc1 w2 _)
            case c2 => simp [Value.oneCell']
            case c3 => unfold maxLen; omega
            case c4 => omega
            case c5 => simp; omega
            intro g cap w3 hown3 hgrow hat _
            have hb3 := (hgrow.block w1.heap.size (by simp; omega) (fun e => by have := (hown2.lt _ e.symm).1; omega)).trans HO2.out.blk
            have d1 : w3.cell? ⟨w1.heap.size, 1, none⟩ = some ov := by rw [Lib.cell_of_heap hb3]; rfl
            have f2 : w3.frozen? ⟨w1.heap.size, 1, none⟩ = false := Lib.frozen_of_heap hb3 1
            have HN : Hid (OutIs w1.heap.size n (ks.take k ++ [sub θ t.args[k]]) (w3.setCell ⟨w1.heap.size, 1, none⟩ (.slice (some ⟨g, 0, none⟩) (k + 1) cap))) := by
              have := Lib.hid (HO2.out.push (t := sub θ t.args[k]) (u := sv u1) (v := .slice v1.1 v1.2.1 v1.2.2) (w' := w3) (g := g) (cap := cap) ?_ (by rw [HLK.out]; exact hown3) hgrow hat)
              · rw [HLK.out] at this
                exact this
              · refine (HT1.out.keep (keptGrown (World.grownBy_alloc w2 _ none) fun x hx => ⟨hx.2, by simp⟩)).more fun x hx => ⟨?_, ?_, ?_⟩
                · have := hx.1; omega
                · have := hx.2; simp; omega
                · intro e
                  have := (HO.out.own.lt x e.symm).2
                  have h5 := hx.1
                  omega
            have hb4 : Below w1.heap.size w1 w3 := (hb.trans (hbW.mono hsz)).grown hgrow (by simp; omega) (fun x e => by have := (hown2.lt _ e).1; omega)
            clear hb3
            go_wp2
            refine NoPanic.normal ?_
            go_wp2
            go_roundw
            case rel =>
              refine ⟨k + 1, by omega, by go_num, ?_, ?_⟩
              · have := HN.out
                rw [List.take_add_one, HK1.out]
                exact this
              · exact hb4.setCell (by simp) _
            case measure => simp [intOf]; omega
        · obtain ⟨ov, rfl⟩ := ho'.shape
          have hRr := (hb.block _ hRl).trans HR1.out
          have r0 : wr.cell? ⟨w.heap.size + 1, 0, none⟩ = some (.string ⟨#[]⟩) := by rw [Lib.cell_of_heap hRr]; rfl
          have r1 : wr.cell? ⟨w.heap.size + 1, 1, none⟩ = some (.slice none 0 0) := by rw [Lib.cell_of_heap hRr]; rfl
          have g0 : wr.frozen? ⟨w.heap.size + 1, 0, none⟩ = false := Lib.frozen_of_heap hRr 0
          have g1 : wr.frozen? ⟨w.heap.size + 1, 1, none⟩ = false := Lib.frozen_of_heap hRr 1
          have HO := Lib.hid ho'
          have HRR := Lib.hid hRr
          clear hB ho' hRr hl2 hctr hts hXr
          go_wp2_with fail
          have hR2 : ((wr.setCell ⟨w.heap.size + 1, 0, none⟩ (.string (bs n))).setCell ⟨w.heap.size + 1, 1, none⟩ (.slice ov.1 ov.2.1 ov.2.2)).heap[w.heap.size + 1]? = some (.cells #[sv n, .slice ov.1 ov.2.1 ov.2.2] 30 (0, 0)) := setCell_heap (setCell_heap HRR.out)
          have q0 : ((wr.setCell ⟨w.heap.size + 1, 0, none⟩ (.string (bs n))).setCell ⟨w.heap.size + 1, 1, none⟩ (.slice ov.1 ov.2.1 ov.2.2)).cell? ⟨w.heap.size + 1, 0, none⟩ = some (sv n) := by rw [Lib.cell_of_heap hR2]; rfl
          have q1 : ((wr.setCell ⟨w.heap.size + 1, 0, none⟩ (.string (bs n))).setCell ⟨w.heap.size + 1, 1, none⟩ (.slice ov.1 ov.2.1 ov.2.2)).cell? ⟨w.heap.size + 1, 1, none⟩ = some (.slice ov.1 ov.2.1 ov.2.2) := by rw [Lib.cell_of_heap hR2]; rfl
          refine bodyPost_ret (v := .agg #[sv n, .slice ov.1 ov.2.1 ov.2.2]) ?_ rfl ?_
          · clear HO HRR hb hR2 IH HKA HBW1
            simp [results, Tryd.results51, go_sem, q0, q1]
          · obtain rfl : k = m := by omega
            have hx : ks.take k = ks := List.take_of_length_le (by rw [HKL.out]; exact Nat.le_refl _)
            have hd := HO.out
            rw [hx] at hd
            have hD := hd.done HNL.out (by rw [HKL.out]; exact hl)
            have hlt3 := lt_of_heap hd.blk
            refine ⟨_, _, rfl, ?_, ((HBW1.out.trans (hb.mono HBW1.out.size)).setCell (by simp) _).setCell (by simp) _⟩
            rw [HND.out]
            refine (hD.keep (Kept.trans (keptGrown (row := some (w.heap.size + 1)) grownSet fun x hx => ⟨hx.2, ?_⟩) (keptGrown (row := some (w.heap.size + 1)) grownSet fun x hx => ⟨by rw [sizeSet]; exact hx.2, ?_⟩))).more fun x hx => ⟨?_, ?_⟩
            · intro e; injection e with e; have := hx.1; omega
            · intro e; injection e with e; have := hx.1; omega
            · have := hx.1; omega
            · have := hx.2; simp only [sizeSet]; omega
end

section
open Go.RowKit
theorem made_zero (m : Nat) : madeCells #[(Value.int .i64 0)] m = Array.replicate m (Value.int .i64 0) := by
  apply Array.ext
  · simp [size_madeCells]
  · intro i h1 h2
    simp [madeCells, Nat.mod_one]

set_option maxHeartbeats 8000000 in
set_option maxRecDepth 100000 in
theorem rnodes_any (S : Nat → Prop) (L : List Ty) (LA : Option Addr) (lc : Nat) (vs : List (Value × Value)) (Q : Ty → Prop) (hQ : Down Q) (hQL : ∀ n u, solv L n = some u → Q u) (ρ : Ty → Nat) (hr : Rank (solv L) ρ) (θ : Nat → Ty) (hθ : Appl (solv L) θ)
    (t : Ty) (u v : Value) (w : World) (htk : TK w S LA L vs) (hfew : L.length ≤ 4000000) (hty : TyIs w S t u v) (hq : Q t) :
    Calls Tryd.prog 50 #[.slice LA L.length lc, .agg #[u, v]] w fun e w' => e = .returned (.int .i64 ((capS (sub θ t).size : Nat) : Int)) ∧ Below w.heap.size w w' := by
  obtain ⟨u, v, rfl, rfl⟩ := hty.shape
  obtain ⟨i0, hi, hz0, hz1, hz2⟩ := info_parts infoI
  obtain ⟨m, hm⟩ : ∃ m, m = L.length := ⟨_, rfl⟩
  obtain ⟨w0, hw0⟩ : ∃ w0, w0 = w.alloc (.cells #[sv u, .slice v.1 v.2.1 v.2.2] 30) := ⟨_, rfl⟩
  have hb0 : Below w.heap.size w w0 := by rw [hw0]; exact (Below.refl _ _).alloc (Nat.le_refl _) _
  have hX0 : w0.heap[w.heap.size]? = some (.cells #[sv u, .slice v.1 v.2.1 v.2.2] 30 (0, 0)) := by rw [hw0]; exact alloc1 _ _
  have hmk := run_make (P := Tryd.prog) w0.drew 22 3 i0 (.int .i64 0) Tryd.underlying22 hi hz0 .i64 .i64 (m : Int) (m : Int) (by omega) (Int.le_refl _) (by rw [hz2, hm]; omega) (by omega)
  simp only [Int.toNat_natCast, hz1, Nat.mul_one, show (Value.int .i64 0).cells = #[(Value.int .i64 0)] from rfl] at hmk
  rw [made_zero] at hmk
  have hb1 : Below w0.heap.size w0 ((w0.alloc (.cells (Array.replicate m (.int .i64 0)) 3)).drew) := ((Below.refl _ _).alloc (Nat.le_refl _) _).drew
  have hb01 := hb0.trans (hb1.mono hb0.size)
  have hKA : KAt ((w0.alloc (.cells (Array.replicate m (.int .i64 0)) 3)).drew) w0.heap.size (List.replicate m 0) := by
    unfold KAt
    rw [show ((List.replicate m (0 : Int)).map (Value.int .i64)).toArray = Array.replicate m (.int .i64 0) by simp]
    exact alloc1 w0 _
  have CALL := rcount_any w0.heap.size S L LA lc vs Q hQ hQL ρ hr θ hθ (ρ t) t (sv u) (.slice v.1 v.2.1 v.2.2) (List.replicate m 0) _ (Nat.le_refl _) ⟨htk.tys.keep (htk.kept hb01), fun b hS => ⟨Nat.lt_of_lt_of_le (htk.lt b hS) hb01.size, by have := htk.lt b hS; have := hb0.size; omega⟩, hfew⟩ (hty.keep (htk.kept hb01)) hq hKA (by simp [hm]) (fun k z hk => .inl (by
    rw [List.getElem?_replicate] at hk
    split at hk
    · exact (Option.some.inj hk).symm
    · cases hk))
  rw [← hm] at CALL hfew ⊢
  have CALL := Lib.hid CALL
  have HB01 := Lib.hid hb01
  have HMK := Lib.hid hmk
  have HW0 := Lib.hid hw0
  have hsw := hb0.size
  have c0 : w0.cell? ⟨w.heap.size, 0, none⟩ = some (sv u) := (Lib.cell_of_heap hX0 _).trans rfl
  have c1 : w0.cell? ⟨w.heap.size, 1, none⟩ = some (.slice v.1 v.2.1 v.2.2) := (Lib.cell_of_heap hX0 _).trans rfl
  have HX0 := Lib.hid hX0
  clear hb0 hb1 hb01 hmk hKA hw0 hm hX0
  go_enter Tryd.func50, Tryd.ntmps50
  go_wp2_with fail
  rw [← HW0.out]
  refine wp_region_held' (fun w' => w'.cell? ⟨w.heap.size, 0, none⟩ = some (sv u) ∧ w'.cell? ⟨w.heap.size, 1, none⟩ = some (.slice v.1 v.2.1 v.2.2)) [] [0, 1, 2, 3] [4, 5] [6] (by kernel_rfl) (by kernel_rfl) ?s0 ?h0
  case s0 => exact ⟨c0, c1⟩
  case h0 =>
    simp only [opsAt, List.filterMap_cons, List.filterMap_nil, List.getElem?_toArray, List.getElem?_cons_succ, List.getElem?_cons_zero]
    refine wpFloat_nil ?_
    refine wpLoad_step ?v0 rfl (fun w' hS => ?y0) ?k0
    case y0 =>
      obtain ⟨h1, h2⟩ := hS
      go_simp
      try rfl
    case k0 =>
    go_simp
    refine wpLoad_step ?v1 rfl (fun w' hS => ?y1) ?k1
    case y1 =>
      obtain ⟨h1, h2⟩ := hS
      go_simp
      try rfl
    case k1 =>
    go_simp
    refine wpLoad_step ?v2 rfl (fun w' hS => ?y2) ?k2
    case y2 =>
      obtain ⟨h1, h2⟩ := hS
      go_simp
      try rfl
    case k2 =>
    go_simp
    refine wpLoad_step ?v3 rfl (fun w' hS => ?y3) ?k3
    case y3 =>
      obtain ⟨h1, h2⟩ := hS
      go_simp
      try rfl
    case k3 =>
    go_simp
    refine wpLoad_nil ?_
    have hw0l : w.heap.size < w0.heap.size := by rw [HW0.out]; show _ < (w.heap.push _).size; rw [Array.size_push]; omega
    have mk := HMK.out
    refine wpKeep_step rfl ?_
    go_simp
    clear mk
    refine wpKeep_step rfl ?_
    go_simp
    refine CALL.out.mono ?_
    rintro e w2 ⟨K', rfl, hka, hkl, hN, hk⟩
    have hb02 : Below w.heap.size w w2 := HB01.out.trans ⟨hk.os, hk.tape, hk.output, hk.size, fun x hx => hk.block x (Nat.lt_of_lt_of_le hx HB01.out.size) (by omega)⟩
    have HB2 := Lib.hid hb02
    have hX1 : ((w0.alloc (.cells (Array.replicate m (.int .i64 0)) 3)).drew).heap[w.heap.size]? = some (.cells #[sv u, .slice v.1 v.2.1 v.2.2] 30 (0, 0)) := (heap_alloc_old w0 _ hw0l).trans HX0.out
    have hX2 := hk.heap hX1 (by omega)
    refine ⟨⟨(Lib.cell_of_heap hX2 _).trans rfl, (Lib.cell_of_heap hX2 _).trans rfl⟩, ?_⟩
    refine wpKeep_nil ?_
    clear hX1 hX2 hka hkl hN hk hb02
    go_wp2
    refine NoPanic.normal ?_
    go_wp2
    go_ret
    exact ⟨rfl, HB2.out⟩

set_option maxHeartbeats 8000000 in
set_option maxRecDepth 100000 in
theorem rApply_any (S : Nat → Prop) (L : List Ty) (LA : Option Addr) (lc : Nat) (vs : List (Value × Value)) (Q : Ty → Prop) (hQ : Down Q) (hQL : ∀ n u, solv L n = some u → Q u) (ρ : Ty → Nat) (hr : Rank (solv L) ρ) (θ : Nat → Ty) (hθ : Appl (solv L) θ)
    (t : Ty) (u v : Value) (w : World) (htk : TK w S LA L vs) (hfew : L.length ≤ 4000000) (hty : TyIs w S t u v) (hq : Q t) :
    Calls Tryd.prog 26 #[.slice LA L.length lc, .agg #[u, v]] w (MadeTy (appT θ t) w) := by
  obtain ⟨u, v, rfl, rfl⟩ := hty.shape
  obtain ⟨w0, hw0⟩ : ∃ w0, w0 = (w.alloc (.cells #[sv u, .slice v.1 v.2.1 v.2.2] 30)).alloc (.cells #[.string ⟨#[]⟩, .slice none 0 0] 30) := ⟨_, rfl⟩
  have hb0 : Below w.heap.size w w0 := by rw [hw0]; exact ((Below.refl _ _).alloc (Nat.le_refl _) _).alloc (by rw [show (w.alloc (.cells #[sv u, .slice v.1 v.2.1 v.2.2] 30)).heap.size = w.heap.size + 1 from Array.size_push _]; omega) _
  obtain ⟨hX0, hR0⟩ := alloc2 w (.cells #[sv u, .slice v.1 v.2.1 v.2.2] 30) (.cells #[.string ⟨#[]⟩, .slice none 0 0] 30)
  rw [← hw0] at hX0 hR0
  have NOD := Lib.hid (rnodes_any S L LA lc vs Q hQ hQL ρ hr θ hθ t (sv u) (.slice v.1 v.2.1 v.2.2) w0 (htk.below hb0) hfew (hty.keep (htk.kept hb0)) hq)
  obtain ⟨m, hm⟩ : ∃ m, m = L.length := ⟨_, rfl⟩
  rw [← hm] at NOD ⊢
  have HM := Lib.hid hm
  have HB0 := Lib.hid hb0
  have HTY := Lib.hid hty
  have HTK := Lib.hid htk
  have HX0 := Lib.hid hX0
  have HR0 := Lib.hid hR0
  have HW0 := Lib.hid hw0
  have hsw := hb0.size
  clear hm hb0 hty htk hX0 hR0 hw0
  go_enter Tryd.func26, Tryd.ntmps26
  go_wp2_with fail
  rw [← HW0.out]
  refine NOD.out.mono ?_
  rintro e w1 ⟨rfl, hb1⟩
  have hX1 := (hb1.block _ (lt_of_heap HX0.out)).trans HX0.out
  have hR1 := (hb1.block _ (lt_of_heap HR0.out)).trans HR0.out
  have x0 : w1.cell? ⟨w.heap.size, 0, none⟩ = some (sv u) := (Lib.cell_of_heap hX1 _).trans rfl
  have x1 : w1.cell? ⟨w.heap.size, 1, none⟩ = some (.slice v.1 v.2.1 v.2.2) := (Lib.cell_of_heap hX1 _).trans rfl
  have r0 : w1.cell? ⟨w.heap.size + 1, 0, none⟩ = some (.string ⟨#[]⟩) := (Lib.cell_of_heap hR1 _).trans rfl
  have r1 : w1.cell? ⟨w.heap.size + 1, 1, none⟩ = some (.slice none 0 0) := (Lib.cell_of_heap hR1 _).trans rfl
  have z0 : w1.frozen? ⟨w.heap.size + 1, 0, none⟩ = false := Lib.frozen_of_heap hR1 0
  have z1 : w1.frozen? ⟨w.heap.size + 1, 1, none⟩ = false := Lib.frozen_of_heap hR1 1
  have hbw := HB0.out.trans (hb1.mono HB0.out.size)
  have hsz := hbw.size
  have HBW := Lib.hid hbw
  have HR1 := Lib.hid hR1
  have hRl := lt_of_heap hR1
  obtain ⟨x, hx⟩ : ∃ x, x = capS (sub θ t).size := ⟨_, rfl⟩
  rw [← hx]
  have HX := Lib.hid hx
  clear hx hX1 hR1 hbw hb1 NOD
  by_cases hgt : x > 200
  · have hap : appT θ t = errT := by
      have h1 := HX.out
      unfold capS at h1
      unfold appT
      rw [if_pos (by omega)]
    have HAP := Lib.hid hap
    have hg1 : decide ((x : Int) > 200) = true := by simp; omega
    clear hap
    go_wp2_with fail
    have hR3 : ((w1.setCell ⟨w.heap.size + 1, 0, none⟩ (.string ⟨#[101, 114, 114, 111, 114]⟩)).setCell ⟨w.heap.size + 1, 1, none⟩ (.slice none 0 0)).heap[w.heap.size + 1]? = some (.cells #[.string ⟨#[101, 114, 114, 111, 114]⟩, .slice none 0 0] 30 (0, 0)) := setCell_heap (setCell_heap HR1.out)
    have q0 : ((w1.setCell ⟨w.heap.size + 1, 0, none⟩ (.string ⟨#[101, 114, 114, 111, 114]⟩)).setCell ⟨w.heap.size + 1, 1, none⟩ (.slice none 0 0)).cell? ⟨w.heap.size + 1, 0, none⟩ = some (.string ⟨#[101, 114, 114, 111, 114]⟩) := (Lib.cell_of_heap hR3 _).trans rfl
    have q1 : ((w1.setCell ⟨w.heap.size + 1, 0, none⟩ (.string ⟨#[101, 114, 114, 111, 114]⟩)).setCell ⟨w.heap.size + 1, 1, none⟩ (.slice none 0 0)).cell? ⟨w.heap.size + 1, 1, none⟩ = some (.slice none 0 0) := (Lib.cell_of_heap hR3 _).trans rfl
    refine bodyPost_ret (v := .agg #[.string ⟨#[101, 114, 114, 111, 114]⟩, .slice none 0 0]) ?_ rfl ?_
    · clear HX HR1 hR3 HAP HBW HTY HTK HW0 HX0 HR0 HB0
      simp [results, Tryd.results26, go_sem, q0, q1]
    · refine ⟨_, _, rfl, ?_, (HBW.out.setCell (by simp) _).setCell (by simp) _⟩
      rw [HAP.out]
      exact (Tys.nil _ _ none).close (by decide) (Nat.zero_le _) ⟨Nat.le_refl _, Nat.zero_le _⟩
  · have hap : appT θ t = sub θ t := by
      have h1 := HX.out
      unfold capS at h1
      unfold appT
      rw [if_neg (by omega)]
    have HAP := Lib.hid hap
    have hg1 : decide ((x : Int) > 200) = false := by simp; omega
    have CALL := rapply_any S L LA lc vs Q hQ hQL ρ hr θ hθ (ρ t) t (sv u) (.slice v.1 v.2.1 v.2.2) w1 (Nat.le_refl _) (HTK.out.below HBW.out) (HTY.out.keep (HTK.out.kept HBW.out)) hq
    rw [← HM.out] at CALL
    have CALL := Lib.hid CALL
    clear hap
    go_wp2_with fail
    refine CALL.out.mono ?_
    rintro e w2 ⟨u1, v1, rfl, hT, hb2⟩
    obtain ⟨u1, v1, rfl, rfl⟩ := hT.shape
    have hR2 := (hb2.block _ hRl).trans HR1.out
    have r0 : w2.cell? ⟨w.heap.size + 1, 0, none⟩ = some (.string ⟨#[]⟩) := (Lib.cell_of_heap hR2 _).trans rfl
    have r1 : w2.cell? ⟨w.heap.size + 1, 1, none⟩ = some (.slice none 0 0) := (Lib.cell_of_heap hR2 _).trans rfl
    have z0 : w2.frozen? ⟨w.heap.size + 1, 0, none⟩ = false := Lib.frozen_of_heap hR2 0
    have z1 : w2.frozen? ⟨w.heap.size + 1, 1, none⟩ = false := Lib.frozen_of_heap hR2 1
    have HT := Lib.hid hT
    have HB2 := Lib.hid (HBW.out.trans (hb2.mono HBW.out.size))
    have HR2 := Lib.hid hR2
    have hsz2 := hb2.size
    clear hT hb2 hR2
    go_wp2_with fail
    have hR3 : ((w2.setCell ⟨w.heap.size + 1, 0, none⟩ (.string (bs u1))).setCell ⟨w.heap.size + 1, 1, none⟩ (.slice v1.1 v1.2.1 v1.2.2)).heap[w.heap.size + 1]? = some (.cells #[sv u1, .slice v1.1 v1.2.1 v1.2.2] 30 (0, 0)) := setCell_heap (setCell_heap HR2.out)
    have q0 : ((w2.setCell ⟨w.heap.size + 1, 0, none⟩ (.string (bs u1))).setCell ⟨w.heap.size + 1, 1, none⟩ (.slice v1.1 v1.2.1 v1.2.2)).cell? ⟨w.heap.size + 1, 0, none⟩ = some (sv u1) := (Lib.cell_of_heap hR3 _).trans rfl
    have q1 : ((w2.setCell ⟨w.heap.size + 1, 0, none⟩ (.string (bs u1))).setCell ⟨w.heap.size + 1, 1, none⟩ (.slice v1.1 v1.2.1 v1.2.2)).cell? ⟨w.heap.size + 1, 1, none⟩ = some (.slice v1.1 v1.2.1 v1.2.2) := (Lib.cell_of_heap hR3 _).trans rfl
    refine bodyPost_ret (v := .agg #[sv u1, .slice v1.1 v1.2.1 v1.2.2]) ?_ rfl ?_
    · clear HT HB2 HR2 hR3 CALL HX HR1 HAP HBW HTY HTK HW0 HX0 HR0 HB0
      simp [results, Tryd.results26, go_sem, q0, q1]
    · refine ⟨_, _, rfl, ?_, (HB2.out.setCell (by simp) _).setCell (by simp) _⟩
      rw [HAP.out]
      refine (HT.out.keep (Kept.trans (keptGrown (row := some (w.heap.size + 1)) grownSet fun x hx => ⟨hx.2, ?_⟩) (keptGrown (row := some (w.heap.size + 1)) grownSet fun x hx => ⟨by rw [sizeSet]; exact hx.2, ?_⟩))).more fun x hx => ⟨?_, ?_⟩
      · intro e; injection e with e; have := hx.1; omega
      · intro e; injection e with e; have := hx.1; omega
      · have := hx.1; omega
      · have := hx.2; simp only [sizeSet]; omega
end
end Go.Proofs.YtndhglcdkegigaaDoor
