/-
  The walk of (*recompilemade.Dice).Type: a made type.
  Conditions: the dice lie in memory; the depth is at most 100.
-/
import Derived.Test.YtkggmckfdkpldaaDoorFeC
import Derived.Test.YtkggmckfdkpldaaDoorFeP
namespace Go.Proofs.YtkggmckfdkpldaaDoor
open Go.RowKit

variable {TA0 : Option Addr} {CQ0 : Nat}

def dnames : List (List UInt8) := [[105, 110, 116], [98, 111, 111, 108], [97, 58, 58, 80], [36, 84], [36, 85], [63, 48], [63, 49], [63, 50], [63, 51], [101, 114, 114, 111, 114], [97, 58, 58, 66, 111, 120], [117, 110, 105, 116]]
/-- A made type: its names are of the twelve, it has at most two arguments, and is at most so deep. -/
inductive DTy : Nat → Ty → Prop
  | mk (d : Nat) (n : List UInt8) (ks : List Ty) (hn : n ∈ dnames) (hk : ks.length ≤ 2) (h0 : d = 0 → ks = []) (h : ∀ a ∈ ks, DTy (d - 1) a) : DTy d (.mk n ks)

theorem sizeL_two {ks : List Ty} {b : Nat} (hk : ks.length ≤ 2) (h : ∀ a ∈ ks, a.size ≤ b) : sizeL ks ≤ 2 * b := by
  match ks, hk with
  | [], _ => simp [sizeL]
  | [x], _ => have := h x (by simp); simp [sizeL]; omega
  | [x, y], _ => have := h x (by simp); have := h y (by simp); simp [sizeL]; omega
theorem DTy.size {d : Nat} {t : Ty} (h : DTy d t) : t.size + 1 ≤ 2 * 2 ^ d := by
  induction h with
  | mk d n ks hn hk h0 h ih =>
    simp only [Ty.size]
    cases d with
    | zero => simp [h0 rfl, sizeL]
    | succ d =>
      have h1 : sizeL ks ≤ 2 * (2 * 2 ^ d - 1) := sizeL_two hk fun a ha => by have := ih a ha; simp at this; omega
      have h2 : 0 < 2 ^ d := Nat.pow_pos (by omega)
      rw [Nat.pow_succ]
      omega

theorem kp_grown' {rb : Nat} {w w' : World} (h : Kp (fun y => y = rb) w w') : w.grownBy w' (some rb) := ⟨h.os, h.tape, h.output, h.size, fun i hi hne => h.block i hi fun e => hne (by rw [e])⟩

theorem row_cells {w : World} {b : Nat} {cs : Array Value} {T : TypeId} {S : Nat → Prop} {xs : List Value} (h : w.heap[b]? = some (.cells cs T (0, 0))) (hx : cs.toList = xs) (hS : S b) : Row w S (some ⟨b, 0, none⟩) xs := by
  refine .inr ⟨⟨b, 0, none⟩, rfl, hS, fun j u hu => ?_⟩
  exact World.news_of_block (cs := cs) h j u (by rw [hx]; exact hu)

theorem setCell_two {w : World} {b x : Nat} {u v : Value} (h : some x ≠ some b) : ((w.setCell ⟨b, 0, none⟩ u).setCell ⟨b, 1, none⟩ v).heap[x]? = w.heap[x]? := by
  have hk : Kp (fun y => y = b) w ((w.setCell ⟨b, 0, none⟩ u).setCell ⟨b, 1, none⟩ v) := ((Kp.refl (fun y => y = b) w).setCell (fun _ => rfl) _).setCell (fun _ => rfl) _
  by_cases hx : x < w.heap.size
  · exact hk.block x hx fun e => h (by rw [e])
  · rw [Array.getElem?_eq_none (by rw [sizeSet, sizeSet]; omega), Array.getElem?_eq_none (by omega)]

def DTyRes (TA0 : Option Addr) (CQ0 : Nat) (d dd : Nat) (xs : List Int) (w : World) (e : Ending) (w' : World) : Prop := ∃ t u v, e = .returned (.agg #[u, v]) ∧ DTy d t ∧ TyIs w' (Fr w.heap.size w'.heap.size) t u v ∧ Threw TA0 CQ0 dd xs w w'

set_option maxHeartbeats 4000000 in
set_option maxRecDepth 100000 in
theorem dtype_any (d : Nat) : ∀ (dd : Nat) (xs : List Int) (w : World), d ≤ 100 → DiceOf TA0 CQ0 w dd xs → Calls Tryd.prog 54 #[.pointer (some ⟨dd, 0, none⟩), .int .i64 (d : Int)] w (DTyRes TA0 CQ0 d dd xs w) := by
  induction d using Nat.strongRecOn with | ind d ih => ?_
  intro dd xs w hd100 hD
  have hdl := hD.lt
  obtain ⟨i0, hi, hz0, hz1, hz2⟩ := info_parts infoT
  have hR : (w.alloc (.cells #[.string ⟨#[]⟩, .slice none 0 0] 31)).heap[w.heap.size]? = some (.cells #[.string ⟨#[]⟩, .slice none 0 0] 31 (0, 0)) := alloc1 _ _
  have hK : Kp (fun y => y = dd) w (w.alloc (.cells #[.string ⟨#[]⟩, .slice none 0 0] 31)) := (Kp.refl _ _).alloc _
  have hD0 := hD.below ((Below.refl _ _).alloc (Nat.le_refl _) (.cells #[.string ⟨#[]⟩, .slice none 0 0] 31))
  have hsz0 : (w.alloc (.cells #[.string ⟨#[]⟩, .slice none 0 0] 31)).heap.size = w.heap.size + 1 := by simp
  generalize hw0 : w.alloc (.cells #[.string ⟨#[]⟩, .slice none 0 0] 31) = w0 at *
  have hD1 := hD0.below ((Below.refl _ _).alloc (Nat.le_refl _) (.cells #[.string ⟨#[105,110,116]⟩, .string ⟨#[98,111,111,108]⟩, .string ⟨#[97,58,58,80]⟩, .string ⟨#[36,84]⟩, .string ⟨#[36,85]⟩, .string ⟨#[63,48]⟩, .string ⟨#[63,49]⟩, .string ⟨#[63,50]⟩, .string ⟨#[63,51]⟩, .string ⟨#[101,114,114,111,114]⟩, .string ⟨#[97,58,58,66,111,120]⟩, .string ⟨#[117,110,105,116]⟩] 9))
  have hrow : Row (w0.alloc (.cells #[.string ⟨#[105,110,116]⟩, .string ⟨#[98,111,111,108]⟩, .string ⟨#[97,58,58,80]⟩, .string ⟨#[36,84]⟩, .string ⟨#[36,85]⟩, .string ⟨#[63,48]⟩, .string ⟨#[63,49]⟩, .string ⟨#[63,50]⟩, .string ⟨#[63,51]⟩, .string ⟨#[101,114,114,111,114]⟩, .string ⟨#[97,58,58,66,111,120]⟩, .string ⟨#[117,110,105,116]⟩] 9)) (fun y => y < (w0.alloc (.cells #[.string ⟨#[105,110,116]⟩, .string ⟨#[98,111,111,108]⟩, .string ⟨#[97,58,58,80]⟩, .string ⟨#[36,84]⟩, .string ⟨#[36,85]⟩, .string ⟨#[63,48]⟩, .string ⟨#[63,49]⟩, .string ⟨#[63,50]⟩, .string ⟨#[63,51]⟩, .string ⟨#[101,114,114,111,114]⟩, .string ⟨#[97,58,58,66,111,120]⟩, .string ⟨#[117,110,105,116]⟩] 9)).heap.size ∧ y ≠ dd) (some ⟨w0.heap.size, 0, none⟩) (dnames.map sv) := row_cells (alloc1 w0 _) rfl ⟨by simp, by omega⟩
  have hof := ofc_any dnames (some ⟨w0.heap.size, 0, none⟩) 12 dd xs _ (by decide) (by decide) hD1 hrow
  have hl12 : dnames.length = 12 := rfl
  rw [hl12, hsz0] at hof
  have OF := Lib.hid hof
  have HW0 := Lib.hid hw0
  clear hof hl12 hw0
  go_enter Tryd.func54, Tryd.ntmps54
  go_wp2_with fail
  rw [HW0.out]
  refine OF.out.mono ?_
  rintro e w1 ⟨n, hn, rfl, hD2, hK2⟩
  have hR1 := hK2.heap ((heap_alloc_old w0 (.cells #[.string ⟨#[105,110,116]⟩, .string ⟨#[98,111,111,108]⟩, .string ⟨#[97,58,58,80]⟩, .string ⟨#[36,84]⟩, .string ⟨#[36,85]⟩, .string ⟨#[63,48]⟩, .string ⟨#[63,49]⟩, .string ⟨#[63,50]⟩, .string ⟨#[63,51]⟩, .string ⟨#[101,114,114,111,114]⟩, .string ⟨#[97,58,58,66,111,120]⟩, .string ⟨#[117,110,105,116]⟩] 9) (lt_of_heap hR)).trans hR) (by omega)
  have hK1 : Kp (fun y => y = dd) w w1 := (hK.alloc _).one hK2
  have hs1 : w.heap.size + 1 < w1.heap.size := by have := hK2.size; simp at this; omega
  have hnl : n.length ≤ 4000000 := by
    have : ∀ y ∈ dnames, y.length ≤ 4000000 := by decide
    exact this n hn
  have IH := Lib.hid ih
  have HR1 := Lib.hid hR1
  have HK1 := Lib.hid hK1
  have HD2 := Lib.hid hD2
  have HNM := Lib.hid hn
  clear hD1 hrow hD0 hR hK hK2 ih hR1 hK1 hD2 hD hn HW0 OF
  go_wp2_with fail
  refine (nextc_any 3 dd xs _ (by decide) (by decide) (HD2.out.below ((Below.refl w1.heap.size w1).alloc (Nat.le_refl _) (.cells #[sv n, .slice none 0 0] 31)))).mono ?_
  rintro e w3 ⟨k, hk, rfl, hD3, hK3⟩
  have hB3 := hK3.heap (alloc1 w1 (.cells #[sv n, .slice none 0 0] 31)) (by omega)
  have hR3 := hK3.heap ((heap_alloc_old w1 (.cells #[sv n, .slice none 0 0] 31) (lt_of_heap HR1.out)).trans HR1.out) (by omega)
  have hK3' : Kp (fun y => y = dd) w w3 := (HK1.out.alloc _).one hK3
  have hs3 := lt_of_heap hB3
  have HB3 := Lib.hid hB3
  have HR3 := Lib.hid hR3
  have HK3 := Lib.hid hK3'
  have HD3 := Lib.hid hD3
  clear hB3 hR3 hK3' hD3 hK3
  go_wp2_with fail
  go_loopw [6] (fun i wr => ∃ (j : Nat) (ks : List Ty), i = .int .i64 (j : Int) ∧ ks.length + j ≤ 2 ∧ (d = 0 → ks = []) ∧ (∀ a ∈ ks, DTy (d - 1) a) ∧ OutIs w1.heap.size n ks wr ∧ wr.heap[w.heap.size]? = some (.cells #[.string ⟨#[]⟩, .slice none 0 0] 31 (0, 0)) ∧ DiceOf TA0 CQ0 wr dd xs ∧ Kp (fun y => y = dd) w wr) (fun i _ => (intOf i).toNat)
  case atStart => exact ⟨k, [], rfl, by simp; omega, fun _ => rfl, (fun a ha => by cases ha), OutIs.fresh HB3.out, HR3.out, HD3.out, HK3.out⟩
  case round =>
    obtain ⟨j, ks, rfl, hjk, h0, hks, ho, hR, hDr, hKr⟩ := hrel
    obtain ⟨ov, vs', ho'⟩ := ho
    have hB := ho'.blk
    obtain ⟨ov, rfl⟩ := ho'.shape
    have c0 : wr.cell? ⟨w1.heap.size, 0, none⟩ = some (sv n) := by rw [Lib.cell_of_heap hB]; rfl
    have c1 : wr.cell? ⟨w1.heap.size, 1, none⟩ = some (.slice ov.1 ov.2.1 ov.2.2) := by rw [Lib.cell_of_heap hB]; rfl
    have hlt2 := lt_of_heap hB
    have HO := Lib.hid ho'
    have HR := Lib.hid hR
    have HDR := Lib.hid hDr
    have HKR := Lib.hid hKr
    have HKS := Lib.hid hks
    have H0 := Lib.hid h0
    clear hB ho' hR hDr hKr hks h0
    by_cases hgo : 0 < j ∧ 0 < d
    · obtain ⟨hj0, hd0⟩ := hgo
      have hj1 : (0 : Int) < (j : Int) := by omega
      have hd1 : (0 : Int) < (d : Int) := by omega
      have hdd : ((d : Int) - 1) = ((d - 1 : Nat) : Int) := by omega
      have CALL := Lib.hid (IH.out (d - 1) (by omega) dd xs wr.drew (by omega) (HDR.out.below (Below.refl _ _).drew))
      rw [← hdd] at CALL
      have hwr : IntKind.i64.wrap ((d : Int) - 1) = (d : Int) - 1 := by rw [IntKind.wrap_i64]; omega
      obtain ⟨q, hq⟩ : ∃ q, q = ks.length := ⟨_, rfl⟩
      have HQ := Lib.hid hq
      have hq2 : q ≤ 2 := by omega
      clear hdd hq
      go_wp2_with fail
      refine wp_region_held' (fun w' => w'.cell? ⟨w1.heap.size, 1, none⟩ = some (.slice ov.1 ov.2.1 ov.2.2)) [] [0, 1, 2, 3, 4] [5, 6] [7, 8, 9] (by kernel_rfl) (by kernel_rfl) ?sz ?hz
      case sz => exact c1
      case hz =>
      simp only [opsAt, List.filterMap_cons, List.filterMap_nil, List.getElem?_toArray, List.getElem?_cons_succ, List.getElem?_cons_zero]
      refine wpFloat_nil ?_
      refine wpLoad_step ?vz0 rfl (fun w' hS => ?yz0) ?kz0
      case yz0 =>
        go_simp
        try rfl
      case kz0 =>
      go_simp
      refine wpLoad_step ?vz1 rfl (fun w' hS => ?yz1) ?kz1
      case yz1 =>
        go_simp
        try rfl
      case kz1 =>
      go_simp
      refine wpLoad_step ?vz2 rfl (fun w' hS => ?yz2) ?kz2
      case yz2 =>
        go_simp
        try rfl
      case kz2 =>
      go_simp
      refine wpLoad_step ?vz3 rfl (fun w' hS => ?yz3) ?kz3
      case yz3 =>
        go_simp
        try rfl
      case kz3 =>
      go_simp
      refine wpLoad_step ?vz4 rfl (fun w' hS => ?yz4) ?kz4
      case yz4 =>
        go_simp
        try rfl
      case kz4 =>
      go_simp
      refine wpLoad_nil ?_
      refine wpKeep_step rfl ?_
      go_simp
      refine CALL.out.mono ?_
      rintro e w4 ⟨t1, u1, v1, rfl, hty1, hT1, hD4, hK4⟩
      obtain ⟨u1, v1, rfl, rfl⟩ := hT1.shape
      have hzw : wr.heap.size ≤ w4.heap.size := hK4.size
      have HT1 := Lib.hid hT1
      clear hT1
      have d1 : w4.cell? ⟨w1.heap.size, 1, none⟩ = some (.slice ov.1 ov.2.1 ov.2.2) := by
        have hB4 := hK4.heap (w := wr.drew) HO.out.blk (by omega)
        rw [Lib.cell_of_heap hB4]; rfl
      refine ⟨d1, ?_⟩
      refine wpKeep_step rfl ?_
      go_simp
      refine ⟨(cellAlloc (by omega)).trans d1, ?_⟩
      refine wpKeep_nil ?_
      have hKW : Kp (fun y => y = dd) wr (w4.alloc (.cells #[sv u1, .slice v1.1 v1.2.1 v1.2.2] 31)) := (((Kp.refl _ wr).drew).one hK4).alloc _
      have hO2 := HO.out.kept (kp_grown' hKW) (.inr ⟨dd, rfl, by omega⟩)
      have hown2 := hO2.own
      rw [← HQ.out] at hown2
      have HO2 := Lib.hid hO2
      clear hO2
      refine wpList_append_lies _ rfl _ _ 29 rfl (w1.heap.size + 1) 31 i0 _ 2 40 Tryd.underlying29 hi hz0 hz1 hz2 rfl (by omega) _ q (flat2 vs') rfl hown2 ⟨w4.heap.size, 0, none⟩ 1 1 [sv u1, .slice v1.1 v1.2.1 v1.2.2] rfl rfl ?c1z ?c2z (by omega) ?c3z ?c4z ?c5z _ rfl ?_
      case c1z => exact World.news_of_block (cs := #[sv u1, .slice v1.1 v1.2.1 v1.2.2]) (alloc1 w4 _)
      case c2z => simp [Value.oneCell']
      case c3z => unfold maxLen; omega
      case c4z => omega
      case c5z => simp; omega
      intro g cap w5 hown3 hgrow hat _
      have hb2 := (hgrow.block w1.heap.size (by simp; omega) (fun e => by have := (hown2.lt _ e.symm).1; omega)).trans HO2.out.blk
      have e1' : w5.cell? ⟨w1.heap.size, 1, none⟩ = some (.slice ov.1 ov.2.1 ov.2.2) := by rw [Lib.cell_of_heap hb2]; rfl
      have f2 : w5.frozen? ⟨w1.heap.size, 1, none⟩ = false := Lib.frozen_of_heap hb2 1
      have HN : Hid (OutIs w1.heap.size n (ks ++ [t1]) (w5.setCell ⟨w1.heap.size, 1, none⟩ (.slice (some ⟨g, 0, none⟩) (q + 1) cap))) := by
        have := Lib.hid (HO2.out.push (t := t1) (u := sv u1) (v := .slice v1.1 v1.2.1 v1.2.2) (w' := w5) (g := g) (cap := cap) ?_ (by rw [← HQ.out]; exact hown3) hgrow hat)
        · rw [← HQ.out] at this
          exact this
        · refine (HT1.out.keep (keptGrown (World.grownBy_alloc w4 _ none) fun x hx => ⟨hx.2, by simp⟩)).more fun x hx => ⟨?_, ?_, ?_⟩
          · have h5 : wr.heap.size ≤ x := hx.1; omega
          · have := hx.2; simp; omega
          · intro e
            have := (HO.out.own.lt x e.symm).2
            have h5 : wr.heap.size ≤ x := hx.1
            omega
      have hK5 : Kp (fun y => w1.heap.size ≤ y) w4 (w5.setCell ⟨w1.heap.size, 1, none⟩ (.slice (some ⟨g, 0, none⟩) (q + 1) cap)) := (((Kp.refl _ w4).alloc _).grown hgrow (fun r hr _ => by have := (hown2.lt r hr).1; omega)).setCell (fun _ => Nat.le_refl _) _
      have hR4 := hK5.heap (hK4.heap (w := wr.drew) HR.out (by omega)) (by omega)
      have hD5 := hD4.keep hK5 (fun y hy => by omega)
      have hKw : Kp (fun y => y = dd) w (w5.setCell ⟨w1.heap.size, 1, none⟩ (.slice (some ⟨g, 0, none⟩) (q + 1) cap)) := ((HKR.out.drew).one hK4).trans hK5 (fun x hx hM => by omega)
      have HTY := Lib.hid hty1
      have HR4 := Lib.hid hR4
      have HD5 := Lib.hid hD5
      have HKW := Lib.hid hKw
      clear hb2 hK5 hR4 hD5 hKw hty1 hKW hD4 hK4 hown3 hgrow hat
      go_wp2
      refine NoPanic.normal ?_
      go_wp2
      go_roundw
      case rel =>
        refine ⟨j - 1, ks ++ [t1], by go_num, by rw [List.length_append, List.length_singleton]; omega, fun h => by omega, fun a ha => ?_, HN.out, HR4.out, HD5.out, HKW.out⟩
        rcases List.mem_append.1 ha with ha | ha
        · exact HKS.out a ha
        · rw [List.mem_singleton.1 ha]; exact HTY.out
      case measure => simp [intOf]; omega
    · have r0 : wr.cell? ⟨w.heap.size, 0, none⟩ = some (.string ⟨#[]⟩) := by rw [Lib.cell_of_heap HR.out]; rfl
      have r1 : wr.cell? ⟨w.heap.size, 1, none⟩ = some (.slice none 0 0) := by rw [Lib.cell_of_heap HR.out]; rfl
      have g0 : wr.frozen? ⟨w.heap.size, 0, none⟩ = false := Lib.frozen_of_heap HR.out 0
      have g1 : wr.frozen? ⟨w.heap.size, 1, none⟩ = false := Lib.frozen_of_heap HR.out 1
      have hfin : DTyRes TA0 CQ0 d dd xs w (.returned (.agg #[sv n, .slice ov.1 ov.2.1 ov.2.2])) ((wr.setCell ⟨w.heap.size, 0, none⟩ (sv n)).setCell ⟨w.heap.size, 1, none⟩ (.slice ov.1 ov.2.1 ov.2.2)) := by
        have hgs : wr.grownBy ((wr.setCell ⟨w.heap.size, 0, none⟩ (sv n)).setCell ⟨w.heap.size, 1, none⟩ (.slice ov.1 ov.2.1 ov.2.2)) (some w.heap.size) := ⟨rfl, rfl, rfl, by simp, fun x hx hne => (setCell_two hne)⟩
        have hKs : Kp (fun y => y = w.heap.size) wr ((wr.setCell ⟨w.heap.size, 0, none⟩ (sv n)).setCell ⟨w.heap.size, 1, none⟩ (.slice ov.1 ov.2.1 ov.2.2)) := (Kp.refl _ wr).grown hgs fun r hr _ => (Option.some.inj hr).symm
        refine ⟨_, _, _, rfl, .mk d n ks HNM.out (by omega) H0.out HKS.out, ?_, HDR.out.keep hKs (fun y hy => by omega), HKR.out.trans hKs fun x hx hM => by omega⟩
        refine ((HO.out.done hnl (by omega)).keep (hKs.kept fun b hb => ⟨hb.2, by have := hb.1; omega⟩)).more fun x hx => ⟨by have := hx.1; omega, Nat.lt_of_lt_of_le hx.2 hKs.size⟩
      have hR2 : ((wr.setCell ⟨w.heap.size, 0, none⟩ (sv n)).setCell ⟨w.heap.size, 1, none⟩ (.slice ov.1 ov.2.1 ov.2.2)).heap[w.heap.size]? = some (.cells #[sv n, .slice ov.1 ov.2.1 ov.2.2] 31 (0, 0)) := setCell_heap (setCell_heap HR.out)
      have q0 : ((wr.setCell ⟨w.heap.size, 0, none⟩ (sv n)).setCell ⟨w.heap.size, 1, none⟩ (.slice ov.1 ov.2.1 ov.2.2)).cell? ⟨w.heap.size, 0, none⟩ = some (sv n) := by rw [Lib.cell_of_heap hR2]; rfl
      have q1 : ((wr.setCell ⟨w.heap.size, 0, none⟩ (sv n)).setCell ⟨w.heap.size, 1, none⟩ (.slice ov.1 ov.2.1 ov.2.2)).cell? ⟨w.heap.size, 1, none⟩ = some (.slice ov.1 ov.2.1 ov.2.2) := by rw [Lib.cell_of_heap hR2]; rfl
      have HFIN := Lib.hid hfin
      clear hfin hR2
      by_cases hj0 : 0 < j
      · have hj1 : (0 : Int) < (j : Int) := by omega
        obtain rfl : d = 0 := by omega
        go_wp2
        refine bodyPost_ret (v := .agg #[sv n, .slice ov.1 ov.2.1 ov.2.2]) ?_ rfl HFIN.out
        simp [results, Tryd.results54, go_sem, q0, q1]
      · obtain rfl : j = 0 := by omega
        go_wp2
        refine bodyPost_ret (v := .agg #[sv n, .slice ov.1 ov.2.1 ov.2.2]) ?_ rfl HFIN.out
        simp [results, Tryd.results54, go_sem, q0, q1]
end Go.Proofs.YtkggmckfdkpldaaDoor
