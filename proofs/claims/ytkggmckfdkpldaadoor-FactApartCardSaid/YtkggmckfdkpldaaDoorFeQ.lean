/-
  The walk of recompileref09.Same.
  Conditions: the arguments read as types.
  The walks of ref10.SameParams and SameSignature and of ref09.SameList.
  Conditions: the arguments read as type parameters, types and signatures of at most 4000000 elements.
-/
import Derived.Test.YtkggmckfdkpldaaDoorFeP
import Derived.Test.YtkggmckfdkpldaaDoorFeM
import Derived.Test.YtkggmckfdkpldaaDoorFcW
namespace Go.Proofs.YtkggmckfdkpldaaDoor
section
open Go.RowKit
set_option maxHeartbeats 4000000 in
set_option maxRecDepth 100000 in
theorem refSame_any (a : Ty) : ∀ (b : Ty) (u v u' v' : Value) (w : World), TyIs w (Lt w.heap.size) a u v → TyIs w (Lt w.heap.size) b u' v' → Calls Tryd.prog 32 #[.agg #[u, v], .agg #[u', v']] w (Says (a = b) w) := by
  induction a using Ty.ind with | h n ks ih => ?_
  intro b u v u' v' w ht ht'
  obtain ⟨n', ks'⟩ := b
  obtain ⟨A, c, vs, rfl, rfl, hn, hz, hc1, hc2, hT⟩ := ht.open_
  obtain ⟨A', c', vs', rfl, rfl, hn', hz', hc1', hc2', hT'⟩ := ht'.open_
  simp only [Ty.name, Ty.args] at hn hz hc1 hT hn' hz' hc1' hT' ⊢
  have IH := Lib.hid ih
  clear ih ht ht'
  by_cases hnn : n = n'
  · subst hnn
    have hbe : ((bs n).toList == (bs n).toList) = true := by simp
    have hbn : ((bs n).toList != (bs n).toList) = false := by simp
    by_cases hll : ks.length = ks'.length
    · obtain ⟨m, hm⟩ : ∃ m, m = ks.length := ⟨_, rfl⟩
      rw [← hll, ← hm]
      rw [← hll, ← hm] at hz'
      rw [← hm] at hz
      have HM := Lib.hid hm
      have HL := Lib.hid hll
      clear hm hll hc1 hc1'
      go_enter Tryd.func32, Tryd.ntmps32
      go_wp2_with fail
      go_loopw [5] (fun i wr => ∃ k : Nat, k ≤ m ∧ i = .int .i64 k ∧ ks.take k = ks'.take k ∧ wr.heap[w.heap.size]? = some (.cells #[sv n, .slice A m c] 31 (0, 0)) ∧ wr.heap[w.heap.size + 1]? = some (.cells #[sv n, .slice A' m c'] 31 (0, 0)) ∧ Below w.heap.size w wr) (fun i _ => m - (intOf i).toNat)
      case atStart => exact ⟨0, Nat.zero_le _, rfl, rfl, (alloc2 _ _ _).1, (alloc2 _ _ _).2, ((Below.refl _ _).alloc (Nat.le_refl _) _).alloc (by simp) _⟩
      case round =>
        obtain ⟨k, hk, rfl, hx, hB, hB', hb⟩ := hrel
        have c1 : wr.cell? ⟨w.heap.size, 1, none⟩ = some (.slice A m c) := (Lib.cell_of_heap hB _).trans rfl
        have c2 : wr.cell? ⟨w.heap.size + 1, 1, none⟩ = some (.slice A' m c') := (Lib.cell_of_heap hB' _).trans rfl
        have hlb := lt_of_heap hB'
        have HB := Lib.hid hB
        have HB' := Lib.hid hB'
        have HX := Lib.hid hx
        clear hB hB' hx
        by_cases hlt : k < m
        · have hki : k < ks.length := by rw [← HM.out]; exact hlt
          have hki' : k < ks'.length := by rw [← HL.out]; exact hki
          obtain ⟨ad, u, v, rfl, hS, e0, e1, hty⟩ := (hT.now (Nat.le_refl _) hb).at_ (List.getElem?_eq_getElem hki)
          obtain ⟨ad', u', v', rfl, hS', e0', e1', hty'⟩ := (hT'.now (Nat.le_refl _) hb).at_ (List.getElem?_eq_getElem hki')
          obtain ⟨u, v, rfl, rfl⟩ := hty.shape
          obtain ⟨u', v', rfl, rfl⟩ := hty'.shape
          have HCALL := Lib.hid (IH.out ks[k] (List.getElem_mem hki) ks'[k] _ _ _ _ wr.drew (hty.keep fun _ _ => rfl) (hty'.keep fun _ _ => rfl))
          have hs1 : ks.take (k + 1) = ks.take k ++ [ks[k]] := List.take_succ_eq_append_getElem hki
          have hs2 : ks'.take (k + 1) = ks'.take k ++ [ks'[k]] := List.take_succ_eq_append_getElem hki'
          have HS1 := Lib.hid hs1
          have HS2 := Lib.hid hs2
          clear hs1 hs2 hty hty'
          have hik : (0 : Int) ≤ (k : Int) ∧ (k : Int) < (m : Int) := ⟨by omega, by omega⟩
          go_wp2_with fail
          refine wp_region_held' (fun w' => w'.cell? ⟨w.heap.size, 1, none⟩ = some (.slice (some ad) m c) ∧ w'.cell? ⟨w.heap.size + 1, 1, none⟩ = some (.slice (some ad') m c') ∧ w'.cell? (ad.add (k * 2)) = some (sv u) ∧ w'.cell? ⟨(ad.add (k * 2)).block, (ad.add (k * 2)).off + 1, none⟩ = some (.slice v.1 v.2.1 v.2.2) ∧ w'.cell? (ad'.add (k * 2)) = some (sv u') ∧ w'.cell? ⟨(ad'.add (k * 2)).block, (ad'.add (k * 2)).off + 1, none⟩ = some (.slice v'.1 v'.2.1 v'.2.2)) [] [0, 1, 2, 3, 4, 5, 6, 7, 8, 9] [10] [11] (by kernel_rfl) (by kernel_rfl) ?s0 ?h0
          case s0 => exact ⟨c1, c2, e0, e1, e0', e1'⟩
          case h0 =>
            simp only [opsAt, List.filterMap_cons, List.filterMap_nil, List.getElem?_toArray, List.getElem?_cons_succ, List.getElem?_cons_zero]
            refine wpFloat_nil ?_
            refine wpLoad_step ?v0 rfl (fun w' hS => ?y0) ?k0
            case y0 =>
              obtain ⟨h1, h2, h3, h4, h5, h6⟩ := hS
              go_simp
              try rfl
            case k0 =>
            go_simp
            refine wpLoad_step ?v1 rfl (fun w' hS => ?y1) ?k1
            case y1 =>
              obtain ⟨h1, h2, h3, h4, h5, h6⟩ := hS
              go_simp
              try rfl
            case k1 =>
            go_simp
            refine wpLoad_step ?v2 rfl (fun w' hS => ?y2) ?k2
            case y2 =>
              obtain ⟨h1, h2, h3, h4, h5, h6⟩ := hS
              go_simp
              try rfl
            case k2 =>
            go_simp
            refine wpLoad_step ?v3 rfl (fun w' hS => ?y3) ?k3
            case y3 =>
              obtain ⟨h1, h2, h3, h4, h5, h6⟩ := hS
              go_simp
              try rfl
            case k3 =>
            go_simp
            refine wpLoad_step ?v4 rfl (fun w' hS => ?y4) ?k4
            case y4 =>
              obtain ⟨h1, h2, h3, h4, h5, h6⟩ := hS
              go_simp
              try rfl
            case k4 =>
            go_simp
            refine wpLoad_step ?v5 rfl (fun w' hS => ?y5) ?k5
            case y5 =>
              obtain ⟨h1, h2, h3, h4, h5, h6⟩ := hS
              go_simp
              try rfl
            case k5 =>
            go_simp
            refine wpLoad_step ?v6 rfl (fun w' hS => ?y6) ?k6
            case y6 =>
              obtain ⟨h1, h2, h3, h4, h5, h6⟩ := hS
              go_simp
              try rfl
            case k6 =>
            go_simp
            refine wpLoad_step ?v7 rfl (fun w' hS => ?y7) ?k7
            case y7 =>
              obtain ⟨h1, h2, h3, h4, h5, h6⟩ := hS
              go_simp
              try rfl
            case k7 =>
            go_simp
            refine wpLoad_step ?v8 rfl (fun w' hS => ?y8) ?k8
            case y8 =>
              obtain ⟨h1, h2, h3, h4, h5, h6⟩ := hS
              go_simp
              try rfl
            case k8 =>
            go_simp
            refine wpLoad_step ?v9 rfl (fun w' hS => ?y9) ?k9
            case y9 =>
              obtain ⟨h1, h2, h3, h4, h5, h6⟩ := hS
              go_simp
              try rfl
            case k9 =>
            go_simp
            refine wpLoad_nil ?_
            refine wpKeep_step rfl ?_
            go_simp
            refine HCALL.out.mono ?_
            rintro e w1 ⟨r, rfl, hr, hb1⟩
            obtain ⟨hc, _⟩ := belowCell hb1
            have hba : ∀ p : Addr, p.block < wr.heap.size → w1.cell? p = wr.cell? p := fun p hp => World.cell?_of_block (hb1.block _ hp)
            have HB1 := Lib.hid ((hb1.block _ (by have := lt_of_heap HB.out; exact this)).trans HB.out)
            have HB1' := Lib.hid ((hb1.block _ (by have := lt_of_heap HB'.out; exact this)).trans HB'.out)
            have hd0 : Below wr.heap.size wr wr.drew := (Below.refl _ _).drew
            have HBB := Lib.hid (hb.trans ((hd0.trans hb1).mono hb.size))
            have HR := Lib.hid hr
            refine ⟨⟨(hba _ (by have := lt_of_heap HB.out; exact this)).trans c1, (hba _ hlb).trans c2, (hba _ (by rw [blkAdd]; exact hS)).trans e0, (hba ⟨(ad.add (k * 2)).block, (ad.add (k * 2)).off + 1, none⟩ (by rw [blkAdd]; exact hS)).trans e1, (hba _ (by rw [blkAdd]; exact hS')).trans e0', (hba ⟨(ad'.add (k * 2)).block, (ad'.add (k * 2)).off + 1, none⟩ (by rw [blkAdd]; exact hS')).trans e1'⟩, ?_⟩
            clear hb1 hr hba hc hd0
            refine wpKeep_nil ?_
            cases r with
            | true =>
              have HE := Lib.hid (HR.out.1 rfl)
              go_wp2
              refine NoPanic.normal ?_
              go_wp2
              go_roundw
              case rel => exact ⟨k + 1, by omega, by go_num, by rw [HS1.out, HS2.out, HX.out, HE.out], HB1.out, HB1'.out, HBB.out⟩
              case measure => simp [intOf]; omega
            | false =>
              have HNE : Hid (¬ Ty.mk n ks = Ty.mk n ks') := Lib.hid fun e => by
                injection e with _ e
                have e2 := congrArg (fun l => l[k]?) e
                simp only [List.getElem?_eq_getElem hki, List.getElem?_eq_getElem hki'] at e2
                have := HR.out.2 (Option.some.inj e2)
                cases this
              go_wp2
              refine NoPanic.normal ?_
              go_wp2
              go_ret
              exact ⟨false, rfl, ⟨(fun h => by cases h), fun h => absurd h HNE.out⟩, HBB.out⟩
        · obtain rfl : k = m := by omega
          have HEQ : Hid (Ty.mk n ks = Ty.mk n ks') := Lib.hid (by
            have hx := HX.out
            rw [List.take_of_length_le (by rw [← HM.out]; exact Nat.le_refl _), List.take_of_length_le (by rw [← HL.out, ← HM.out]; exact Nat.le_refl _)] at hx
            rw [hx])
          go_wp2
          go_ret
          exact ⟨true, rfl, ⟨fun _ => HEQ.out, fun _ => rfl⟩, hb⟩
    · have hne : ((ks.length : Int) != (ks'.length : Int)) = true := by simp; omega
      have HNE : Hid (¬ Ty.mk n ks = Ty.mk n ks') := Lib.hid fun e => hll (by injection e with _ e; rw [e])
      have hb2 : Below w.heap.size w ((w.alloc (.cells #[sv n, .slice A ks.length c] 31)).alloc (.cells #[sv n, .slice A' ks'.length c'] 31)) := ((Below.refl _ _).alloc (Nat.le_refl _) _).alloc (by simp) _
      have HB2 := Lib.hid hb2
      clear hll hb2 hT hT' hc1 hc1' hz hz'
      generalize ks.length = l1 at *
      generalize ks'.length = l2 at *
      go_enter Tryd.func32, Tryd.ntmps32
      go_wp2
      go_ret
      exact ⟨false, rfl, ⟨(fun h => by cases h), fun h => absurd h HNE.out⟩, HB2.out⟩
  · have hbe := bytesDiff hnn
    have hbn : ((bs n).toList != (bs n').toList) = true := by
      rw [bne, hbe]
      rfl
    have HNE : Hid (¬ Ty.mk n ks = Ty.mk n' ks') := Lib.hid fun e => hnn (by injection e)
    have hb2 : Below w.heap.size w ((w.alloc (.cells #[sv n, .slice A ks.length c] 31)).alloc (.cells #[sv n', .slice A' ks'.length c'] 31)) := ((Below.refl _ _).alloc (Nat.le_refl _) _).alloc (by simp) _
    have HB2 := Lib.hid hb2
    clear hnn hb2 hT hT' hc1 hc1' hz hz'
    go_enter Tryd.func32, Tryd.ntmps32
    go_wp2
    go_ret
    exact ⟨false, rfl, ⟨(fun h => by cases h), fun h => absurd h HNE.out⟩, HB2.out⟩
end

section
open Go.RowKit
theorem toListBs (l : List UInt8) : (bs l).toList = l := by rw [ByteArray.toList_eq, bs_data]
set_option maxHeartbeats 1600000 in
set_option maxRecDepth 100000 in
theorem sameParams_any (xs ys : List Par) (A B : Option Addr) (c d : Nat) (w : World) (hl : xs.length ≤ 4000000) (h : Row w (Lt w.heap.size) A (flt parC xs)) (h2 : Row w (Lt w.heap.size) B (flt parC ys)) :
    Calls Tryd.prog 31 #[.slice A xs.length c, .slice B ys.length d] w (Says (xs = ys) w) := by
  by_cases hll : xs.length = ys.length
  · obtain ⟨m, hm⟩ : ∃ m, m = xs.length := ⟨_, rfl⟩
    rw [← hll, ← hm]
    rw [← hm] at hl
    have HM := Lib.hid hm
    have HLL := Lib.hid hll
    have HR := Lib.hid h
    have HR2 := Lib.hid h2
    clear hm hll h h2
    go_enter Tryd.func31, Tryd.ntmps31
    go_wp2_with fail
    go_loopw [5] (fun i wr => ∃ k : Nat, k ≤ m ∧ i = .int .i64 k ∧ Below w.heap.size w wr ∧ xs.take k = ys.take k) (fun i _ => m - (intOf i).toNat)
    case atStart => exact ⟨0, by omega, rfl, Below.refl _ _, rfl⟩
    case round =>
      obtain ⟨k, hkm, rfl, hB, hP⟩ := hrel
      have HP := Lib.hid hP
      clear hP
      by_cases hlt : k < m
      · obtain ⟨x, hx⟩ : ∃ x, xs[k]? = some x := ⟨_, List.getElem?_eq_getElem (by rw [← HM.out]; exact hlt)⟩
        obtain ⟨y, hy⟩ : ∃ y, ys[k]? = some y := ⟨_, List.getElem?_eq_getElem (by rw [← HLL.out, ← HM.out]; exact hlt)⟩
        obtain ⟨ad, rfl, hsa, a0, a1⟩ := par_at (HR.out.keep (kept_below hB)) hx
        obtain ⟨be, rfl, hsb, b0, b1⟩ := par_at (HR2.out.keep (kept_below hB)) hy
        have hik : (0 : Int) ≤ (k : Int) ∧ (k : Int) < (m : Int) := ⟨by omega, by omega⟩
        have HX := Lib.hid hx
        have HY := Lib.hid hy
        have HB := Lib.hid hB
        have HCC : Hid (AtCells [(ad.add (k * 2), sv x.1), (⟨(ad.add (k * 2)).block, (ad.add (k * 2)).off + 1, none⟩, sv x.2), (be.add (k * 2), sv y.1), (⟨(be.add (k * 2)).block, (be.add (k * 2)).off + 1, none⟩, sv y.2)] wr) := Lib.hid ⟨a0, a1, b0, b1, trivial⟩
        clear hx hy hB hsa hsb a0 a1 b0 b1
        go_wp2_with fail
        refine wp_region_held' (AtCells [(ad.add (k * 2), sv x.1), (⟨(ad.add (k * 2)).block, (ad.add (k * 2)).off + 1, none⟩, sv x.2), (be.add (k * 2), sv y.1), (⟨(be.add (k * 2)).block, (be.add (k * 2)).off + 1, none⟩, sv y.2)]) [] [0, 1, 2, 3, 4, 5, 6, 7, 8] [] [] (by kernel_rfl) (by kernel_rfl) ?sa ?ha
        case sa => exact HCC.out.below (Below.refl _ wr).drew
        case ha =>
        clear HCC
        simp only [opsAt, List.filterMap_cons, List.filterMap_nil, List.getElem?_toArray, List.getElem?_cons_succ, List.getElem?_cons_zero]
        refine wpFloat_nil ?_
        refine wpLoad_step ?va0 rfl (fun w' hS => ?ya0) ?ka0
        case ya0 =>
          obtain ⟨g0, g1, g2, g3, _⟩ := hS
          go_simp
          try rfl
        case ka0 =>
        go_simp
        refine wpLoad_step ?va1 rfl (fun w' hS => ?ya1) ?ka1
        case ya1 =>
          obtain ⟨g0, g1, g2, g3, _⟩ := hS
          go_simp
          try rfl
        case ka1 =>
        go_simp
        refine wpLoad_step ?va2 rfl (fun w' hS => ?ya2) ?ka2
        case ya2 =>
          obtain ⟨g0, g1, g2, g3, _⟩ := hS
          go_simp
          try rfl
        case ka2 =>
        go_simp
        refine wpLoad_step ?va3 rfl (fun w' hS => ?ya3) ?ka3
        case ya3 =>
          obtain ⟨g0, g1, g2, g3, _⟩ := hS
          go_simp
          try rfl
        case ka3 =>
        go_simp
        refine wpLoad_step ?va4 rfl (fun w' hS => ?ya4) ?ka4
        case ya4 =>
          obtain ⟨g0, g1, g2, g3, _⟩ := hS
          go_simp
          try rfl
        case ka4 =>
        go_simp
        refine wpLoad_step ?va5 rfl (fun w' hS => ?ya5) ?ka5
        case ya5 =>
          obtain ⟨g0, g1, g2, g3, _⟩ := hS
          go_simp
          try rfl
        case ka5 =>
        go_simp
        refine wpLoad_step ?va6 rfl (fun w' hS => ?ya6) ?ka6
        case ya6 =>
          obtain ⟨g0, g1, g2, g3, _⟩ := hS
          go_simp
          try rfl
        case ka6 =>
        go_simp
        refine wpLoad_step ?va7 rfl (fun w' hS => ?ya7) ?ka7
        case ya7 =>
          obtain ⟨g0, g1, g2, g3, _⟩ := hS
          go_simp
          try rfl
        case ka7 =>
        go_simp
        refine wpLoad_step (.bool (!decide (x = y))) rfl (fun w' hS => ?ya8) ?ka8
        case ya8 =>
          go_simp
          simp only [toListBs]
          by_cases h1 : x.1 = y.1 <;> by_cases h2 : x.2 = y.2 <;> simp [h1, h2, Prod.ext_iff, eq_comm]
        case ka8 =>
        by_cases he : x = y
        · have hq : decide (x = y) = true := decide_eq_true he
          have HE := Lib.hid he
          rw [hq]
          clear hq he
          refine wpLoad_nil ?_
          refine wpKeep_nil ?_
          go_wp2
          refine NoPanic.normal ?_
          go_wp2
          go_roundw
          case rel => exact ⟨k + 1, by omega, by go_num, HB.out.drew, take_next HP.out HX.out HY.out HE.out⟩
          case measure => simp [intOf]; omega
        · have hq : decide (x = y) = false := decide_eq_false he
          have HE := Lib.hid he
          rw [hq]
          clear hq he
          refine wpLoad_nil ?_
          refine wpKeep_nil ?_
          go_wp2
          refine NoPanic.normal ?_
          go_wp2
          go_ret
          refine ⟨_, rfl, ⟨(fun h => by cases h), fun h => ?_⟩, HB.out.drew⟩
          have e1 := HX.out
          rw [h, HY.out] at e1
          exact absurd (Option.some.inj e1).symm HE.out
      · have HB := Lib.hid hB
        clear hB
        go_wp2
        go_ret
        refine ⟨_, rfl, ⟨fun _ => ?_, fun _ => rfl⟩, HB.out⟩
        have hp := HP.out
        rwa [List.take_of_length_le (by rw [← HM.out]; omega), List.take_of_length_le (by rw [← HLL.out, ← HM.out]; omega)] at hp
  · have hne : xs ≠ ys := fun e => hll (by rw [e])
    obtain ⟨m, hm⟩ : ∃ m, m = xs.length := ⟨_, rfl⟩
    obtain ⟨m2, hm2⟩ : ∃ m2, m2 = ys.length := ⟨_, rfl⟩
    rw [← hm, ← hm2] at hll ⊢
    have HNE := Lib.hid hne
    have hq : ((m : Int) != (m2 : Int)) = true := by simp; omega
    have hq2 : ((m : Int) == (m2 : Int)) = false := by simp; omega
    clear hm hm2 h h2 hl hne
    go_enter Tryd.func31, Tryd.ntmps31
    go_wp2
    go_ret
    exact ⟨_, rfl, ⟨(fun h => by cases h), fun h => absurd h HNE.out⟩, Below.refl _ _⟩

set_option maxHeartbeats 1600000 in
set_option maxRecDepth 100000 in
theorem sameList_any (xs ys : List Ty) (A B : Option Addr) (c d : Nat) (us vs : List (Value × Value)) (w : World) (hl : xs.length ≤ 4000000) (hl2 : ys.length ≤ 4000000) (hc : xs.length ≤ c ∧ c ≤ maxLen) (hd : ys.length ≤ d ∧ d ≤ maxLen) (h : Tys w (Lt w.heap.size) A xs us) (h2 : Tys w (Lt w.heap.size) B ys vs) :
    Calls Tryd.prog 33 #[.slice A xs.length c, .slice B ys.length d] w (Says (xs = ys) w) := by
  have HCL := Lib.hid (refSame_any (.mk [] xs) (.mk [] ys) _ _ _ _ w (h.close (n := []) (by simp) hl hc) (h2.close (n := []) (by simp) hl2 hd))
  clear h h2 hc hd
  go_enter Tryd.func33, Tryd.ntmps33
  go_wp2_with fail
  refine HCL.out.mono ?_
  rintro e w1 ⟨r, rfl, hr, hb⟩
  have HR := Lib.hid hr
  have HB := Lib.hid hb
  clear hr hb
  go_wp2
  go_ret
  refine ⟨r, rfl, ⟨fun h => ?_, fun h => HR.out.2 (by rw [h])⟩, HB.out⟩
  have := HR.out.1 h
  injection this
end
end Go.Proofs.YtkggmckfdkpldaaDoor
