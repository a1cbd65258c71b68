/-
  The walk of ref05.Moves.
  Conditions: the arguments read as identities.
-/
import Derived.Test.YtmnhgkhidepojaaIdR
import Derived.Test.YtmnhgkhidepojaaIdE
import Derived.Test.YtmnhgkhidepojaaBtwk
namespace Go.Proofs.Ytmnhgkhidepojaa
open Go.RowKit

theorem seekX_at {xs : List Idn} {i : Int} {j : Nat} {y : Idn} (h : ∀ z ∈ xs.take j, z.id ≠ i) (hy : xs[j]? = some y) (hk : y.id = i) : seekX xs i = some y.key := by
  unfold seekX
  have : xs.find? (fun y => decide (y.id = i)) = some y := by
    rw [← List.take_append_drop j xs, List.find?_append, List.find?_eq_none.2 fun z hz => by simpa using h z hz]
    obtain ⟨hj, rfl⟩ := List.getElem?_eq_some_iff.1 hy
    rw [List.drop_eq_getElem_cons hj, List.find?_cons_of_pos (by simpa using hk)]
    rfl
  rw [this]
  rfl
theorem seekX_none {xs : List Idn} {i : Int} (h : ∀ z ∈ xs, z.id ≠ i) : seekX xs i = none := by
  unfold seekX
  rw [List.find?_eq_none.2 fun z hz => by simpa using h z hz]
  rfl

set_option maxHeartbeats 1600000 in
set_option maxRecDepth 100000 in
theorem rmoves_any (n1 n2 : Int) (old now : List Idn) (A B : Option Addr) (c d : Nat) (w : World) (hl : old.length ≤ 1000) (hl2 : now.length ≤ 1000) (h : Row w (Lt w.heap.size) A (flt idC old)) (h2 : Row w (Lt w.heap.size) B (flt idC now)) :
    Calls Try.prog 25 #[.agg #[.int .i64 n1, .slice A old.length c], .agg #[.int .i64 n2, .slice B now.length d]] w (OwnIds w (mvs old now)) := by
  obtain ⟨m, hm⟩ : ∃ m, m = old.length := ⟨_, rfl⟩
  obtain ⟨m2, hm2⟩ : ∃ m, m = now.length := ⟨_, rfl⟩
  rw [← hm] at hl ⊢
  rw [← hm2] at hl2 ⊢
  have HM := Lib.hid hm
  have HM2 := Lib.hid hm2
  have HR := Lib.hid h
  have HR2 := Lib.hid h2
  clear hm hm2 h h2
  have hbx : Below w.heap.size w ((w.alloc (.cells #[.int .i64 n1, .slice A m c] 29)).alloc (.cells #[.int .i64 n2, .slice B m2 d] 29)) := ((Below.refl _ _).alloc (Nat.le_refl _) _).alloc (by simp) _
  have hal := alloc2 w (.cells #[.int .i64 n1, .slice A m c] 29) (.cells #[.int .i64 n2, .slice B m2 d] 29)
  have HBX := Lib.hid hbx
  have HAL := Lib.hid hal
  clear hbx hal
  obtain ⟨i0, hi, hz0, hz1, hz2⟩ := info_parts infoId
  go_enter Try.func25, Try.ntmps25
  go_wp2_with fail
  obtain ⟨w0, hw0⟩ : ∃ w0, w0 = ((w.alloc (.cells #[.int .i64 n1, .slice A m c] 29)).alloc (.cells #[.int .i64 n2, .slice B m2 d] 29)) := ⟨_, rfl⟩
  rw [← hw0] at HBX HAL ⊢
  have hsz0 : w0.heap.size = w.heap.size + 2 := by rw [hw0]; simp
  clear hw0
  go_loopw [5, 6] (fun ov i wr => ∃ k : Nat, k ≤ m2 ∧ i = .int .i64 k ∧ Below w.heap.size w wr ∧ wr.heap[w.heap.size]? = some (.cells #[.int .i64 n1, .slice A m c] 29 (0, 0)) ∧ wr.heap[w.heap.size + 1]? = some (.cells #[.int .i64 n2, .slice B m2 d] 29 (0, 0)) ∧
    wr.ownsRow (w.heap.size + 2) 39 4 ov (mvs old (now.take k)).length (flt idC (mvs old (now.take k)))) (fun _ i _ => m2 - (intOf i).toNat)
  case atStart => exact ⟨0, by omega, rfl, HBX.out, HAL.out.1, HAL.out.2, World.ownsRow_nil _ _ _ _⟩
  case round =>
    clear HBX HAL hsz0
    obtain ⟨k2, hkm2, rfl, hB, hX1, hX2, hO⟩ := hrel
    have hsz1 := hB.size
    have hlx2 := lt_of_heap hX2
    obtain ⟨OA, oc, hov, hoc⟩ := own_slice hO
    have c1 : wr.cell? ⟨w.heap.size + 1, 1, none⟩ = some (.slice B m2 d) := (Lib.cell_of_heap hX2 _).trans rfl
    by_cases hlt2 : k2 < m2
    · obtain ⟨y, hy⟩ : ∃ y, now[k2]? = some y := ⟨_, List.getElem?_eq_getElem (by rw [← HM2.out]; exact hlt2)⟩
      have htk : mvs old (now.take (k2 + 1)) = mvs old (now.take k2) ++ (if movedB old y = true then [y] else []) := by
        rw [List.take_add_one, hy, mvs, List.filter_append]
        congr 1
        by_cases e : movedB old y = true <;> simp [e]
      obtain ⟨q, hq⟩ : ∃ q, q = (mvs old (now.take k2)).length := ⟨_, rfl⟩
      rw [← hq] at hO hov
      have HQ := Lib.hid hq
      have HQL : Hid (q ≤ k2) := Lib.hid (by rw [hq, mvs]; exact Nat.le_trans (List.length_filter_le _ _) (by rw [List.length_take]; omega))
      subst hov
      have HY := Lib.hid hy
      have HTK := Lib.hid htk
      have HB := Lib.hid hB
      have HX1 := Lib.hid hX1
      have HX2 := Lib.hid hX2
      have HO := Lib.hid hO
      clear hq hy htk hB hX1 hX2 hO hoc
      go_wp2_with fail
      clear c1
      go_loopw [5, 7] (fun ov j wj => ∃ r : Nat, r ≤ m ∧ j = .int .i64 r ∧ Below w.heap.size w wj ∧ wj.heap[w.heap.size]? = some (.cells #[.int .i64 n1, .slice A m c] 29 (0, 0)) ∧ wj.heap[w.heap.size + 1]? = some (.cells #[.int .i64 n2, .slice B m2 d] 29 (0, 0)) ∧
        wj.ownsRow (w.heap.size + 2) 39 4 ov q (flt idC (mvs old (now.take k2))) ∧ ∀ z ∈ old.take r, z.id ≠ y.id) (fun _ j _ => m - (intOf j).toNat)
      case atStart => exact ⟨0, by omega, rfl, HB.out, HX1.out, HX2.out, HO.out, fun z hz => by simp at hz⟩
      case round =>
        clear HB HX1 HX2 HO
        obtain ⟨r, hrm, rfl, hB, hX1, hX2, hO, hNo⟩ := hrel
        obtain ⟨OB, ob, rfl, hob⟩ := own_slice hO
        have hsr := hB.size
        have hlx1 := lt_of_heap hX1
        have hlx3 := lt_of_heap hX2
        have p1 : wr.cell? ⟨w.heap.size, 1, none⟩ = some (.slice A m c) := (Lib.cell_of_heap hX1 _).trans rfl
        have q1 : wr.cell? ⟨w.heap.size + 1, 1, none⟩ = some (.slice B m2 d) := (Lib.cell_of_heap hX2 _).trans rfl
        have HB := Lib.hid hB
        have HX1 := Lib.hid hX1
        have HX2 := Lib.hid hX2
        have HO := Lib.hid hO
        have HNO := Lib.hid hNo
        clear hB hX1 hX2 hO hNo
        by_cases hlt : r < m
        · obtain ⟨z, hz⟩ : ∃ z, old[r]? = some z := ⟨_, List.getElem?_eq_getElem (by rw [← HM.out]; exact hlt)⟩
          obtain ⟨ad, rfl, hS, a0, a1, a2, a3⟩ := id_at (HR.out.keep (kept_below HB.out)) hz
          obtain ⟨bd, rfl, hS2, b0, b1, b2, b3⟩ := id_at (HR2.out.keep (kept_below HB.out)) HY.out
          have hik : (0 : Int) ≤ (r : Int) ∧ (r : Int) < (m : Int) := ⟨by omega, by omega⟩
          have hik2 : (0 : Int) ≤ (k2 : Int) ∧ (k2 : Int) < (m2 : Int) := ⟨by omega, by omega⟩
          have HZ := Lib.hid hz
          clear hz
          go_wp2_with fail
          refine wp_region_held' (fun w' => w'.cell? ⟨w.heap.size, 1, none⟩ = some (.slice (some ad) m c) ∧ w'.cell? ⟨w.heap.size + 1, 1, none⟩ = some (.slice (some bd) m2 d) ∧ w'.cell? (ad.add (r * 4)) = some (.int .i64 z.id) ∧ w'.cell? (bd.add (k2 * 4)) = some (.int .i64 y.id)) [] [0, 1, 2, 3, 4, 5, 6, 7, 8, 9, 10, 11, 12] [] [] (by kernel_rfl) (by kernel_rfl) ?sa ?ha
          case sa => exact ⟨p1, q1, a0, b0⟩
          case ha =>
          simp only [opsAt, List.filterMap_cons, List.filterMap_nil, List.getElem?_toArray, List.getElem?_cons_succ, List.getElem?_cons_zero]
          refine wpFloat_nil ?_
          refine wpLoad_step ?va0 rfl (fun w' hS => ?ya0) ?ka0
          case ya0 =>
            obtain ⟨g0, g1, g2, g3⟩ := hS
            go_simp
            try rfl
          case ka0 =>
          go_simp
          refine wpLoad_step ?va1 rfl (fun w' hS => ?ya1) ?ka1
          case ya1 =>
            obtain ⟨g0, g1, g2, g3⟩ := hS
            go_simp
            try rfl
          case ka1 =>
          go_simp
          refine wpLoad_step ?va2 rfl (fun w' hS => ?ya2) ?ka2
          case ya2 =>
            obtain ⟨g0, g1, g2, g3⟩ := hS
            go_simp
            try rfl
          case ka2 =>
          go_simp
          refine wpLoad_step ?va3 rfl (fun w' hS => ?ya3) ?ka3
          case ya3 =>
            obtain ⟨g0, g1, g2, g3⟩ := hS
            go_simp
            try rfl
          case ka3 =>
          go_simp
          refine wpLoad_step ?va4 rfl (fun w' hS => ?ya4) ?ka4
          case ya4 =>
            obtain ⟨g0, g1, g2, g3⟩ := hS
            go_simp
            try rfl
          case ka4 =>
          go_simp
          refine wpLoad_step ?va5 rfl (fun w' hS => ?ya5) ?ka5
          case ya5 =>
            obtain ⟨g0, g1, g2, g3⟩ := hS
            go_simp
            try rfl
          case ka5 =>
          go_simp
          refine wpLoad_step ?va6 rfl (fun w' hS => ?ya6) ?ka6
          case ya6 =>
            obtain ⟨g0, g1, g2, g3⟩ := hS
            go_simp
            try rfl
          case ka6 =>
          go_simp
          refine wpLoad_step ?va7 rfl (fun w' hS => ?ya7) ?ka7
          case ya7 =>
            obtain ⟨g0, g1, g2, g3⟩ := hS
            go_simp
            try rfl
          case ka7 =>
          go_simp
          refine wpLoad_step ?va8 rfl (fun w' hS => ?ya8) ?ka8
          case ya8 =>
            obtain ⟨g0, g1, g2, g3⟩ := hS
            go_simp
            try rfl
          case ka8 =>
          go_simp
          refine wpLoad_step ?va9 rfl (fun w' hS => ?ya9) ?ka9
          case ya9 =>
            obtain ⟨g0, g1, g2, g3⟩ := hS
            go_simp
            try rfl
          case ka9 =>
          go_simp
          refine wpLoad_step ?va10 rfl (fun w' hS => ?ya10) ?ka10
          case ya10 =>
            obtain ⟨g0, g1, g2, g3⟩ := hS
            go_simp
            try rfl
          case ka10 =>
          go_simp
          refine wpLoad_step ?va11 rfl (fun w' hS => ?ya11) ?ka11
          case ya11 =>
            obtain ⟨g0, g1, g2, g3⟩ := hS
            go_simp
            try rfl
          case ka11 =>
          go_simp
          refine wpLoad_step ?va12 rfl (fun w' hS => ?ya12) ?ka12
          case ya12 =>
            obtain ⟨g0, g1, g2, g3⟩ := hS
            go_simp
            try rfl
          case ka12 =>
          go_simp
          refine wpLoad_nil ?_
          refine wpKeep_nil ?_
          by_cases hid : z.id = y.id
          · have hidb : (z.id == y.id) = true := by simpa using hid
            have HID := Lib.hid hid
            clear hid
            go_wp2
            refine NoPanic.normal ?_
            go_wp2_with fail
            have hC : AtCells [(⟨w.heap.size, 1, none⟩, .slice (some ad) m c), (⟨w.heap.size + 1, 1, none⟩, .slice (some bd) m2 d), (⟨(ad.add (r * 4)).block, (ad.add (r * 4)).off + 1, none⟩, sv z.it.md), (⟨(ad.add (r * 4)).block, (ad.add (r * 4)).off + 2, none⟩, sv z.it.nm), (⟨(ad.add (r * 4)).block, (ad.add (r * 4)).off + 3, none⟩, sv z.it.sh), (⟨(bd.add (k2 * 4)).block, (bd.add (k2 * 4)).off + 1, none⟩, sv y.it.md), (⟨(bd.add (k2 * 4)).block, (bd.add (k2 * 4)).off + 2, none⟩, sv y.it.nm), (⟨(bd.add (k2 * 4)).block, (bd.add (k2 * 4)).off + 3, none⟩, sv y.it.sh)] wr := ⟨p1, q1, a1, a2, a3, b1, b2, b3, trivial⟩
            have HC := Lib.hid hC
            clear hC
            refine wp_region_twk (AtCells [(⟨w.heap.size, 1, none⟩, .slice (some ad) m c), (⟨w.heap.size + 1, 1, none⟩, .slice (some bd) m2 d), (⟨(ad.add (r * 4)).block, (ad.add (r * 4)).off + 1, none⟩, sv z.it.md), (⟨(ad.add (r * 4)).block, (ad.add (r * 4)).off + 2, none⟩, sv z.it.nm), (⟨(ad.add (r * 4)).block, (ad.add (r * 4)).off + 3, none⟩, sv z.it.sh), (⟨(bd.add (k2 * 4)).block, (bd.add (k2 * 4)).off + 1, none⟩, sv y.it.md), (⟨(bd.add (k2 * 4)).block, (bd.add (k2 * 4)).off + 2, none⟩, sv y.it.nm), (⟨(bd.add (k2 * 4)).block, (bd.add (k2 * 4)).off + 3, none⟩, sv y.it.sh)]) [0, 1, 2, 3, 4, 5, 6, 7, 8, 9, 10, 11] 12 13 [14, 15] [] (by kernel_rfl) (by kernel_rfl) ?sb ?hb
            case sb => exact HC.out.below (Below.refl _ wr).drew
            case hb =>
            simp only [opsAt, List.filterMap_cons, List.filterMap_nil, List.getElem?_toArray, List.getElem?_cons_succ, List.getElem?_cons_zero]
            refine wpLoad_step ?vb0 rfl (fun w' hS => ?yb0) ?kb0
            case yb0 =>
              obtain ⟨g0, g1, g2, g3, g4, g5, g6, g7, _⟩ := hS
              go_simp
              try rfl
            case kb0 =>
            go_simp
            refine wpLoad_step ?vb1 rfl (fun w' hS => ?yb1) ?kb1
            case yb1 =>
              obtain ⟨g0, g1, g2, g3, g4, g5, g6, g7, _⟩ := hS
              go_simp
              try rfl
            case kb1 =>
            go_simp
            refine wpLoad_step ?vb2 rfl (fun w' hS => ?yb2) ?kb2
            case yb2 =>
              obtain ⟨g0, g1, g2, g3, g4, g5, g6, g7, _⟩ := hS
              go_simp
              try rfl
            case kb2 =>
            go_simp
            refine wpLoad_step ?vb3 rfl (fun w' hS => ?yb3) ?kb3
            case yb3 =>
              obtain ⟨g0, g1, g2, g3, g4, g5, g6, g7, _⟩ := hS
              go_simp
              try rfl
            case kb3 =>
            go_simp
            refine wpLoad_step ?vb4 rfl (fun w' hS => ?yb4) ?kb4
            case yb4 =>
              obtain ⟨g0, g1, g2, g3, g4, g5, g6, g7, _⟩ := hS
              go_simp
              try rfl
            case kb4 =>
            go_simp
            refine wpLoad_step ?vb5 rfl (fun w' hS => ?yb5) ?kb5
            case yb5 =>
              obtain ⟨g0, g1, g2, g3, g4, g5, g6, g7, _⟩ := hS
              go_simp
              try rfl
            case kb5 =>
            go_simp
            refine wpLoad_step ?vb6 rfl (fun w' hS => ?yb6) ?kb6
            case yb6 =>
              obtain ⟨g0, g1, g2, g3, g4, g5, g6, g7, _⟩ := hS
              go_simp
              try rfl
            case kb6 =>
            go_simp
            refine wpLoad_step ?vb7 rfl (fun w' hS => ?yb7) ?kb7
            case yb7 =>
              obtain ⟨g0, g1, g2, g3, g4, g5, g6, g7, _⟩ := hS
              go_simp
              try rfl
            case kb7 =>
            go_simp
            refine wpLoad_step ?vb8 rfl (fun w' hS => ?yb8) ?kb8
            case yb8 =>
              obtain ⟨g0, g1, g2, g3, g4, g5, g6, g7, _⟩ := hS
              go_simp
              try rfl
            case kb8 =>
            go_simp
            refine wpLoad_step ?vb9 rfl (fun w' hS => ?yb9) ?kb9
            case yb9 =>
              obtain ⟨g0, g1, g2, g3, g4, g5, g6, g7, _⟩ := hS
              go_simp
              try rfl
            case kb9 =>
            go_simp
            refine wpLoad_step ?vb10 rfl (fun w' hS => ?yb10) ?kb10
            case yb10 =>
              obtain ⟨g0, g1, g2, g3, g4, g5, g6, g7, _⟩ := hS
              go_simp
              try rfl
            case kb10 =>
            go_simp
            refine wpLoad_step ?vb11 rfl (fun w' hS => ?yb11) ?kb11
            case yb11 =>
              obtain ⟨g0, g1, g2, g3, g4, g5, g6, g7, _⟩ := hS
              go_simp
              try rfl
            case kb11 =>
            go_simp
            clear p1 q1 a0 a1 a2 a3 b0 b1 b2 b3
            refine wpLoad_nil ⟨?o1, ?o2⟩
            case o1 =>
              refine wpKeep_step rfl ?_
              go_simp
              refine ⟨HC.out.below ((Below.refl _ wr).alloc (Nat.le_refl _) _).drew, ?_⟩
              refine wpKeep_step rfl ?_
              go_simp
              have hbz : Below wr.heap.size wr ((wr.alloc (.cells #[.string ⟨#[]⟩, .string ⟨#[]⟩, .string ⟨#[]⟩] 37)).alloc (.cells #[.string ⟨#[]⟩, .string ⟨#[]⟩, .string ⟨#[]⟩] 37)).drew.drew := (((Below.refl _ wr).alloc (Nat.le_refl _) _).alloc (by simp) _).drew.drew
              have haz := alloc2 wr (.cells #[.string ⟨#[]⟩, .string ⟨#[]⟩, .string ⟨#[]⟩] 37) (.cells #[.string ⟨#[]⟩, .string ⟨#[]⟩, .string ⟨#[]⟩] 37)
              refine ⟨HC.out.below hbz, ?_⟩
              obtain ⟨wz, hwz⟩ : ∃ wz, wz = ((wr.alloc (.cells #[.string ⟨#[]⟩, .string ⟨#[]⟩, .string ⟨#[]⟩] 37)).alloc (.cells #[.string ⟨#[]⟩, .string ⟨#[]⟩, .string ⟨#[]⟩] 37)).drew.drew := ⟨_, rfl⟩
              have h8 : wz.heap[wr.heap.size]? = some (.cells #[.string ⟨#[]⟩, .string ⟨#[]⟩, .string ⟨#[]⟩] 37 (0, 0)) := by rw [hwz]; exact haz.1
              have h9 : wz.heap[wr.heap.size + 1]? = some (.cells #[.string ⟨#[]⟩, .string ⟨#[]⟩, .string ⟨#[]⟩] 37 (0, 0)) := by rw [hwz]; exact haz.2
              have hsz : wz.heap.size = wr.heap.size + 2 := by rw [hwz]; simp [World.drew]
              rw [← hwz] at hbz ⊢
              clear hwz haz
              have z0 : wz.cell? ⟨wr.heap.size, 0, none⟩ = some (.string ⟨#[]⟩) := (Lib.cell_of_heap h8 _).trans rfl
              have z1 : wz.cell? ⟨wr.heap.size, 1, none⟩ = some (.string ⟨#[]⟩) := (Lib.cell_of_heap h8 _).trans rfl
              have z2 : wz.cell? ⟨wr.heap.size, 2, none⟩ = some (.string ⟨#[]⟩) := (Lib.cell_of_heap h8 _).trans rfl
              have f0 : wz.frozen? ⟨wr.heap.size, 0, none⟩ = false := Lib.frozen_of_heap h8 0
              have f1 : wz.frozen? ⟨wr.heap.size, 1, none⟩ = false := Lib.frozen_of_heap h8 1
              have f2 : wz.frozen? ⟨wr.heap.size, 2, none⟩ = false := Lib.frozen_of_heap h8 2
              obtain ⟨ws, hws⟩ : ∃ ws, ws = ((wz.setCell ⟨wr.heap.size, 0, none⟩ (sv z.it.md)).setCell ⟨wr.heap.size, 1, none⟩ (sv z.it.nm)).setCell ⟨wr.heap.size, 2, none⟩ (sv z.it.sh) := ⟨_, rfl⟩
              have h8s : ws.heap[wr.heap.size]? = some (.cells #[sv z.it.md, sv z.it.nm, sv z.it.sh] 37 (0, 0)) := by rw [hws]; exact setCell_heap (o := 2) (v := sv z.it.sh) (setCell_heap (o := 1) (v := sv z.it.nm) (setCell_heap (o := 0) (v := sv z.it.md) h8))
              have hks : Kp (fun y => y = wr.heap.size) wz ws := by rw [hws]; exact Kp.setCell (M := fun y => y = wr.heap.size) (Kp.setCell (M := fun y => y = wr.heap.size) (Kp.setCell (M := fun y => y = wr.heap.size) (Kp.refl _ _) (fun _ => rfl) _) (fun _ => rfl) _) (fun _ => rfl) _
              have h9s := hks.heap h9 (by omega)
              have hbs : Below wr.heap.size wr ws := ⟨hks.os.trans hbz.os, hks.tape.trans hbz.tape, hks.output.trans hbz.output, Nat.le_trans hbz.size hks.size, fun b hb => (hks.block b (by omega) (by omega)).trans (hbz.block b hb)⟩
              have HWS := Lib.hid hws
              have HSZ := Lib.hid (show ws.heap.size = wr.heap.size + 2 by rw [hws]; simp [hsz])
              have HBS := Lib.hid hbs
              have H8S := Lib.hid h8s
              have H9S := Lib.hid h9s
              clear hws hbs h8s h9s hks h8 h9 hsz hbz
              refine wpKeep_step rfl ?_
              go_simp
              rw [← HWS.out]
              refine ⟨HC.out.below HBS.out, ?_⟩
              clear z0 z1 z2 f0 f1 f2 HWS
              have z0 : ws.cell? ⟨wr.heap.size + 1, 0, none⟩ = some (.string ⟨#[]⟩) := (Lib.cell_of_heap H9S.out _).trans rfl
              have z1 : ws.cell? ⟨wr.heap.size + 1, 1, none⟩ = some (.string ⟨#[]⟩) := (Lib.cell_of_heap H9S.out _).trans rfl
              have z2 : ws.cell? ⟨wr.heap.size + 1, 2, none⟩ = some (.string ⟨#[]⟩) := (Lib.cell_of_heap H9S.out _).trans rfl
              have f0 : ws.frozen? ⟨wr.heap.size + 1, 0, none⟩ = false := Lib.frozen_of_heap H9S.out 0
              have f1 : ws.frozen? ⟨wr.heap.size + 1, 1, none⟩ = false := Lib.frozen_of_heap H9S.out 1
              have f2 : ws.frozen? ⟨wr.heap.size + 1, 2, none⟩ = false := Lib.frozen_of_heap H9S.out 2
              obtain ⟨wt, hwt⟩ : ∃ wt, wt = ((ws.setCell ⟨wr.heap.size + 1, 0, none⟩ (sv y.it.md)).setCell ⟨wr.heap.size + 1, 1, none⟩ (sv y.it.nm)).setCell ⟨wr.heap.size + 1, 2, none⟩ (sv y.it.sh) := ⟨_, rfl⟩
              have h9t : wt.heap[wr.heap.size + 1]? = some (.cells #[sv y.it.md, sv y.it.nm, sv y.it.sh] 37 (0, 0)) := by rw [hwt]; exact setCell_heap (o := 2) (v := sv y.it.sh) (setCell_heap (o := 1) (v := sv y.it.nm) (setCell_heap (o := 0) (v := sv y.it.md) H9S.out))
              have hkt : Kp (fun y => y = wr.heap.size + 1) ws wt := by rw [hwt]; exact Kp.setCell (M := fun y => y = wr.heap.size + 1) (Kp.setCell (M := fun y => y = wr.heap.size + 1) (Kp.setCell (M := fun y => y = wr.heap.size + 1) (Kp.refl _ _) (fun _ => rfl) _) (fun _ => rfl) _) (fun _ => rfl) _
              have h8t := hkt.heap H8S.out (by omega)
              have hbt : Below wr.heap.size wr wt := ⟨hkt.os.trans HBS.out.os, hkt.tape.trans HBS.out.tape, hkt.output.trans HBS.out.output, Nat.le_trans HBS.out.size hkt.size, fun b hb => (hkt.block b (by have := HSZ.out; omega) (by omega)).trans (HBS.out.block b hb)⟩
              have HWT := Lib.hid hwt
              have HSZT := Lib.hid (show wt.heap.size = wr.heap.size + 2 by rw [hwt]; simp [HSZ.out])
              have HBT := Lib.hid hbt
              have H8T := Lib.hid h8t
              have H9T := Lib.hid h9t
              clear hwt hbt h8t h9t hkt H8S H9S HBS HSZ
              refine wpKeep_step rfl ?_
              go_simp
              rw [← HWT.out]
              refine ⟨HC.out.below HBT.out, ?_⟩
              clear z0 z1 z2 f0 f1 f2 HWT
              refine wpKeep_nil ?_
              have m0 : wt.cell? ⟨wr.heap.size, 0, none⟩ = some (sv z.it.md) := (Lib.cell_of_heap H8T.out _).trans rfl
              have m1 : wt.cell? ⟨wr.heap.size, 1, none⟩ = some (sv z.it.nm) := (Lib.cell_of_heap H8T.out _).trans rfl
              have n0 : wt.cell? ⟨wr.heap.size + 1, 0, none⟩ = some (sv y.it.md) := (Lib.cell_of_heap H9T.out _).trans rfl
              have n1 : wt.cell? ⟨wr.heap.size + 1, 1, none⟩ = some (sv y.it.nm) := (Lib.cell_of_heap H9T.out _).trans rfl
              have hx1 := (HBT.out.block _ hlx1).trans HX1.out
              have hx2 := (HBT.out.block _ hlx3).trans HX2.out
              have q1 : wt.cell? ⟨w.heap.size + 1, 1, none⟩ = some (.slice (some bd) m2 d) := (Lib.cell_of_heap hx2 _).trans rfl
              have hbw := HB.out.trans (HBT.out.mono hsr)
              obtain ⟨bd', e', _, b0, b1, b2, b3⟩ := id_at (HR2.out.keep (kept_below hbw)) HY.out
              obtain rfl := Option.some.inj e'
              have HXT1 := Lib.hid hx1
              have HXT2 := Lib.hid hx2
              have HBW := Lib.hid hbw
              have HOT := Lib.hid ((Kp.ofBelow HBT.out : Kp (fun _ => False) wr wt).own HO.out (fun _ _ e => e.elim))
              have HMV : Hid (movedB old y = decide (z.key ≠ y.key)) := Lib.hid (by unfold movedB; rw [seekX_at HNO.out HZ.out HID.out])
              clear hx1 hx2 hbw e' H8T H9T HC HX1 HX2 HO
              by_cases e1 : z.it.md = y.it.md
              · have e1' : (bs z.it.md).toList = (bs y.it.md).toList := by rw [e1]
                by_cases e2 : z.it.nm = y.it.nm
                · have e2' : (bs z.it.nm).toList = (bs y.it.nm).toList := by rw [e2]
                  have HEQ : Hid (z.key = y.key) := Lib.hid (Prod.ext e1 e2)
                  clear e1 e2
                  go_wp2
                  refine NoPanic.normal ?_
                  go_wp2
                  go_roundw
                  case rel =>
                    refine ⟨k2 + 1, by omega, by go_num, HBW.out, HXT1.out, HXT2.out, ?_⟩
                    rw [HTK.out, HMV.out, HEQ.out]
                    simp only [ne_eq, not_true_eq_false, decide_false, Bool.false_eq_true, if_false, List.append_nil]
                    rw [← HQ.out]
                    exact HOT.out
                  case measure => simp [intOf]; omega
                · have e2' : ¬ (bs z.it.nm).toList = (bs y.it.nm).toList := fun e => e2 (by rwa [bs_toList, bs_toList] at e)
                  have e2'' : ((bs z.it.nm).toList == (bs y.it.nm).toList) = false := by simpa using e2'
                  have HNE : Hid (decide (z.key ≠ y.key) = true) := Lib.hid (by simpa using fun e => e2 (congrArg Prod.snd e))
                  clear e1 e2
                  go_wp2
                  refine NoPanic.normal ?_
                  go_wp2_with (at_builtin; refine wpList_append_lies _ rfl _ _ 27 rfl (w.heap.size + 2) 39 i0 _ 4 56 Try.underlying27 hi hz0 hz1 hz2 rfl (by omega) _ q (flt idC (mvs old (now.take k2))) rfl (HOT.out.alloc _) ⟨wt.heap.size, 0, none⟩ 1 1 (idC y) rfl rfl ?d1pu ?d2pu (by omega) ?d3pu ?d4pu ?d5pu _ rfl ?_)
                  case d1pu => exact World.news_of_block (cs := #[.int .i64 y.id, sv y.it.md, sv y.it.nm, sv y.it.sh]) (alloc1 wt _)
                  case d2pu => exact idC_one y
                  case d3pu => have := HQL.out; unfold maxLen; omega
                  case d4pu => have := HQL.out; omega
                  case d5pu => simp; have := HSZT.out; omega
                  intro g cap w5 hown5 hgrow hat _
                  have hmb : ∀ r, (Value.slice OB q ob).ownBlock = some r → w.heap.size + 2 ≤ r := fun r hr => (HOT.out.lt r hr).1
                  have hl4 : w.heap.size + 2 ≤ wt.heap.size := by have := HSZT.out; omega
                  have HB5 := Lib.hid ((HBW.out.alloc (by omega) (.cells #[.int .i64 y.id, sv y.it.md, sv y.it.nm, sv y.it.sh] 39)).grown hgrow (by simp; omega) (fun r hr => by have := hmb r hr; omega))
                  have HX51 := Lib.hid (((hgrow.block _ (by simp; omega) (fun e => by have := hmb _ e.symm; omega)).trans (heap_alloc_old _ _ (by omega))).trans HXT1.out)
                  have HX52 := Lib.hid (((hgrow.block _ (by simp; omega) (fun e => by have := hmb _ e.symm; omega)).trans (heap_alloc_old _ _ (by omega))).trans HXT2.out)
                  have HO5 := Lib.hid hown5
                  clear hown5 hgrow hat hmb
                  go_wp2
                  go_roundw
                  case rel =>
                    refine ⟨k2 + 1, by omega, by go_num, HB5.out, HX51.out, HX52.out, ?_⟩
                    rw [HTK.out, HMV.out, if_pos HNE.out, List.length_append, ← HQ.out, flt_append, flt_one]
                    exact HO5.out
                  case measure => simp [intOf]; omega
              · have e1' : ¬ (bs z.it.md).toList = (bs y.it.md).toList := fun e => e1 (by rwa [bs_toList, bs_toList] at e)
                have e1'' : ((bs z.it.md).toList == (bs y.it.md).toList) = false := by simpa using e1'
                have HNE : Hid (decide (z.key ≠ y.key) = true) := Lib.hid (by simpa using fun e => e1 (congrArg Prod.fst e))
                clear e1
                go_wp2
                refine NoPanic.normal ?_
                go_wp2_with (at_builtin; refine wpList_append_lies _ rfl _ _ 27 rfl (w.heap.size + 2) 39 i0 _ 4 56 Try.underlying27 hi hz0 hz1 hz2 rfl (by omega) _ q (flt idC (mvs old (now.take k2))) rfl (HOT.out.alloc _) ⟨wt.heap.size, 0, none⟩ 1 1 (idC y) rfl rfl ?d1qu ?d2qu (by omega) ?d3qu ?d4qu ?d5qu _ rfl ?_)
                case d1qu => exact World.news_of_block (cs := #[.int .i64 y.id, sv y.it.md, sv y.it.nm, sv y.it.sh]) (alloc1 wt _)
                case d2qu => exact idC_one y
                case d3qu => have := HQL.out; unfold maxLen; omega
                case d4qu => have := HQL.out; omega
                case d5qu => simp; have := HSZT.out; omega
                intro g cap w5 hown5 hgrow hat _
                have hmb : ∀ r, (Value.slice OB q ob).ownBlock = some r → w.heap.size + 2 ≤ r := fun r hr => (HOT.out.lt r hr).1
                have hl4 : w.heap.size + 2 ≤ wt.heap.size := by have := HSZT.out; omega
                have HB5 := Lib.hid ((HBW.out.alloc (by omega) (.cells #[.int .i64 y.id, sv y.it.md, sv y.it.nm, sv y.it.sh] 39)).grown hgrow (by simp; omega) (fun r hr => by have := hmb r hr; omega))
                have HX51 := Lib.hid (((hgrow.block _ (by simp; omega) (fun e => by have := hmb _ e.symm; omega)).trans (heap_alloc_old _ _ (by omega))).trans HXT1.out)
                have HX52 := Lib.hid (((hgrow.block _ (by simp; omega) (fun e => by have := hmb _ e.symm; omega)).trans (heap_alloc_old _ _ (by omega))).trans HXT2.out)
                have HO5 := Lib.hid hown5
                clear hown5 hgrow hat hmb
                go_wp2
                go_roundw
                case rel =>
                  refine ⟨k2 + 1, by omega, by go_num, HB5.out, HX51.out, HX52.out, ?_⟩
                  rw [HTK.out, HMV.out, if_pos HNE.out, List.length_append, ← HQ.out, flt_append, flt_one]
                  exact HO5.out
                case measure => simp [intOf]; omega
            case o2 =>
              refine wpKeep_step rfl ?_
              go_simp
              refine ⟨HC.out.below ((Below.refl _ wr).alloc (Nat.le_refl _) _).drew, ?_⟩
              refine wpKeep_step rfl ?_
              go_simp
              have hbz : Below wr.heap.size wr ((wr.alloc (.cells #[.string ⟨#[]⟩, .string ⟨#[]⟩, .string ⟨#[]⟩] 37)).alloc (.cells #[.string ⟨#[]⟩, .string ⟨#[]⟩, .string ⟨#[]⟩] 37)).drew.drew := (((Below.refl _ wr).alloc (Nat.le_refl _) _).alloc (by simp) _).drew.drew
              have haz := alloc2 wr (.cells #[.string ⟨#[]⟩, .string ⟨#[]⟩, .string ⟨#[]⟩] 37) (.cells #[.string ⟨#[]⟩, .string ⟨#[]⟩, .string ⟨#[]⟩] 37)
              refine ⟨HC.out.below hbz, ?_⟩
              obtain ⟨wz, hwz⟩ : ∃ wz, wz = ((wr.alloc (.cells #[.string ⟨#[]⟩, .string ⟨#[]⟩, .string ⟨#[]⟩] 37)).alloc (.cells #[.string ⟨#[]⟩, .string ⟨#[]⟩, .string ⟨#[]⟩] 37)).drew.drew := ⟨_, rfl⟩
              have h8 : wz.heap[wr.heap.size + 1]? = some (.cells #[.string ⟨#[]⟩, .string ⟨#[]⟩, .string ⟨#[]⟩] 37 (0, 0)) := by rw [hwz]; exact haz.2
              have h9 : wz.heap[wr.heap.size]? = some (.cells #[.string ⟨#[]⟩, .string ⟨#[]⟩, .string ⟨#[]⟩] 37 (0, 0)) := by rw [hwz]; exact haz.1
              have hsz : wz.heap.size = wr.heap.size + 2 := by rw [hwz]; simp [World.drew]
              rw [← hwz] at hbz ⊢
              clear hwz haz
              have z0 : wz.cell? ⟨wr.heap.size + 1, 0, none⟩ = some (.string ⟨#[]⟩) := (Lib.cell_of_heap h8 _).trans rfl
              have z1 : wz.cell? ⟨wr.heap.size + 1, 1, none⟩ = some (.string ⟨#[]⟩) := (Lib.cell_of_heap h8 _).trans rfl
              have z2 : wz.cell? ⟨wr.heap.size + 1, 2, none⟩ = some (.string ⟨#[]⟩) := (Lib.cell_of_heap h8 _).trans rfl
              have f0 : wz.frozen? ⟨wr.heap.size + 1, 0, none⟩ = false := Lib.frozen_of_heap h8 0
              have f1 : wz.frozen? ⟨wr.heap.size + 1, 1, none⟩ = false := Lib.frozen_of_heap h8 1
              have f2 : wz.frozen? ⟨wr.heap.size + 1, 2, none⟩ = false := Lib.frozen_of_heap h8 2
              obtain ⟨ws, hws⟩ : ∃ ws, ws = ((wz.setCell ⟨wr.heap.size + 1, 0, none⟩ (sv z.it.md)).setCell ⟨wr.heap.size + 1, 1, none⟩ (sv z.it.nm)).setCell ⟨wr.heap.size + 1, 2, none⟩ (sv z.it.sh) := ⟨_, rfl⟩
              have h8s : ws.heap[wr.heap.size + 1]? = some (.cells #[sv z.it.md, sv z.it.nm, sv z.it.sh] 37 (0, 0)) := by rw [hws]; exact setCell_heap (o := 2) (v := sv z.it.sh) (setCell_heap (o := 1) (v := sv z.it.nm) (setCell_heap (o := 0) (v := sv z.it.md) h8))
              have hks : Kp (fun y => y = wr.heap.size + 1) wz ws := by rw [hws]; exact Kp.setCell (M := fun y => y = wr.heap.size + 1) (Kp.setCell (M := fun y => y = wr.heap.size + 1) (Kp.setCell (M := fun y => y = wr.heap.size + 1) (Kp.refl _ _) (fun _ => rfl) _) (fun _ => rfl) _) (fun _ => rfl) _
              have h9s := hks.heap h9 (by omega)
              have hbs : Below wr.heap.size wr ws := ⟨hks.os.trans hbz.os, hks.tape.trans hbz.tape, hks.output.trans hbz.output, Nat.le_trans hbz.size hks.size, fun b hb => (hks.block b (by omega) (by omega)).trans (hbz.block b hb)⟩
              have HWS := Lib.hid hws
              have HSZ := Lib.hid (show ws.heap.size = wr.heap.size + 2 by rw [hws]; simp [hsz])
              have HBS := Lib.hid hbs
              have H8S := Lib.hid h8s
              have H9S := Lib.hid h9s
              clear hws hbs h8s h9s hks h8 h9 hsz hbz
              refine wpKeep_step rfl ?_
              go_simp
              rw [← HWS.out]
              refine ⟨HC.out.below HBS.out, ?_⟩
              clear z0 z1 z2 f0 f1 f2 HWS
              have z0 : ws.cell? ⟨wr.heap.size, 0, none⟩ = some (.string ⟨#[]⟩) := (Lib.cell_of_heap H9S.out _).trans rfl
              have z1 : ws.cell? ⟨wr.heap.size, 1, none⟩ = some (.string ⟨#[]⟩) := (Lib.cell_of_heap H9S.out _).trans rfl
              have z2 : ws.cell? ⟨wr.heap.size, 2, none⟩ = some (.string ⟨#[]⟩) := (Lib.cell_of_heap H9S.out _).trans rfl
              have f0 : ws.frozen? ⟨wr.heap.size, 0, none⟩ = false := Lib.frozen_of_heap H9S.out 0
              have f1 : ws.frozen? ⟨wr.heap.size, 1, none⟩ = false := Lib.frozen_of_heap H9S.out 1
              have f2 : ws.frozen? ⟨wr.heap.size, 2, none⟩ = false := Lib.frozen_of_heap H9S.out 2
              obtain ⟨wt, hwt⟩ : ∃ wt, wt = ((ws.setCell ⟨wr.heap.size, 0, none⟩ (sv y.it.md)).setCell ⟨wr.heap.size, 1, none⟩ (sv y.it.nm)).setCell ⟨wr.heap.size, 2, none⟩ (sv y.it.sh) := ⟨_, rfl⟩
              have h9t : wt.heap[wr.heap.size]? = some (.cells #[sv y.it.md, sv y.it.nm, sv y.it.sh] 37 (0, 0)) := by rw [hwt]; exact setCell_heap (o := 2) (v := sv y.it.sh) (setCell_heap (o := 1) (v := sv y.it.nm) (setCell_heap (o := 0) (v := sv y.it.md) H9S.out))
              have hkt : Kp (fun y => y = wr.heap.size) ws wt := by rw [hwt]; exact Kp.setCell (M := fun y => y = wr.heap.size) (Kp.setCell (M := fun y => y = wr.heap.size) (Kp.setCell (M := fun y => y = wr.heap.size) (Kp.refl _ _) (fun _ => rfl) _) (fun _ => rfl) _) (fun _ => rfl) _
              have h8t := hkt.heap H8S.out (by omega)
              have hbt : Below wr.heap.size wr wt := ⟨hkt.os.trans HBS.out.os, hkt.tape.trans HBS.out.tape, hkt.output.trans HBS.out.output, Nat.le_trans HBS.out.size hkt.size, fun b hb => (hkt.block b (by have := HSZ.out; omega) (by omega)).trans (HBS.out.block b hb)⟩
              have HWT := Lib.hid hwt
              have HSZT := Lib.hid (show wt.heap.size = wr.heap.size + 2 by rw [hwt]; simp [HSZ.out])
              have HBT := Lib.hid hbt
              have H8T := Lib.hid h8t
              have H9T := Lib.hid h9t
              clear hwt hbt h8t h9t hkt H8S H9S HBS HSZ
              refine wpKeep_step rfl ?_
              go_simp
              rw [← HWT.out]
              refine ⟨HC.out.below HBT.out, ?_⟩
              clear z0 z1 z2 f0 f1 f2 HWT
              refine wpKeep_nil ?_
              have m0 : wt.cell? ⟨wr.heap.size + 1, 0, none⟩ = some (sv z.it.md) := (Lib.cell_of_heap H8T.out _).trans rfl
              have m1 : wt.cell? ⟨wr.heap.size + 1, 1, none⟩ = some (sv z.it.nm) := (Lib.cell_of_heap H8T.out _).trans rfl
              have n0 : wt.cell? ⟨wr.heap.size, 0, none⟩ = some (sv y.it.md) := (Lib.cell_of_heap H9T.out _).trans rfl
              have n1 : wt.cell? ⟨wr.heap.size, 1, none⟩ = some (sv y.it.nm) := (Lib.cell_of_heap H9T.out _).trans rfl
              have hx1 := (HBT.out.block _ hlx1).trans HX1.out
              have hx2 := (HBT.out.block _ hlx3).trans HX2.out
              have q1 : wt.cell? ⟨w.heap.size + 1, 1, none⟩ = some (.slice (some bd) m2 d) := (Lib.cell_of_heap hx2 _).trans rfl
              have hbw := HB.out.trans (HBT.out.mono hsr)
              obtain ⟨bd', e', _, b0, b1, b2, b3⟩ := id_at (HR2.out.keep (kept_below hbw)) HY.out
              obtain rfl := Option.some.inj e'
              have HXT1 := Lib.hid hx1
              have HXT2 := Lib.hid hx2
              have HBW := Lib.hid hbw
              have HOT := Lib.hid ((Kp.ofBelow HBT.out : Kp (fun _ => False) wr wt).own HO.out (fun _ _ e => e.elim))
              have HMV : Hid (movedB old y = decide (z.key ≠ y.key)) := Lib.hid (by unfold movedB; rw [seekX_at HNO.out HZ.out HID.out])
              clear hx1 hx2 hbw e' H8T H9T HC HX1 HX2 HO
              by_cases e1 : z.it.md = y.it.md
              · have e1' : (bs z.it.md).toList = (bs y.it.md).toList := by rw [e1]
                by_cases e2 : z.it.nm = y.it.nm
                · have e2' : (bs z.it.nm).toList = (bs y.it.nm).toList := by rw [e2]
                  have HEQ : Hid (z.key = y.key) := Lib.hid (Prod.ext e1 e2)
                  clear e1 e2
                  go_wp2
                  refine NoPanic.normal ?_
                  go_wp2
                  go_roundw
                  case rel =>
                    refine ⟨k2 + 1, by omega, by go_num, HBW.out, HXT1.out, HXT2.out, ?_⟩
                    rw [HTK.out, HMV.out, HEQ.out]
                    simp only [ne_eq, not_true_eq_false, decide_false, Bool.false_eq_true, if_false, List.append_nil]
                    rw [← HQ.out]
                    exact HOT.out
                  case measure => simp [intOf]; omega
                · have e2' : ¬ (bs z.it.nm).toList = (bs y.it.nm).toList := fun e => e2 (by rwa [bs_toList, bs_toList] at e)
                  have e2'' : ((bs z.it.nm).toList == (bs y.it.nm).toList) = false := by simpa using e2'
                  have HNE : Hid (decide (z.key ≠ y.key) = true) := Lib.hid (by simpa using fun e => e2 (congrArg Prod.snd e))
                  clear e1 e2
                  go_wp2
                  refine NoPanic.normal ?_
                  go_wp2_with (at_builtin; refine wpList_append_lies _ rfl _ _ 27 rfl (w.heap.size + 2) 39 i0 _ 4 56 Try.underlying27 hi hz0 hz1 hz2 rfl (by omega) _ q (flt idC (mvs old (now.take k2))) rfl (HOT.out.alloc _) ⟨wt.heap.size, 0, none⟩ 1 1 (idC y) rfl rfl ?d1pv ?d2pv (by omega) ?d3pv ?d4pv ?d5pv _ rfl ?_)
                  case d1pv => exact World.news_of_block (cs := #[.int .i64 y.id, sv y.it.md, sv y.it.nm, sv y.it.sh]) (alloc1 wt _)
                  case d2pv => exact idC_one y
                  case d3pv => have := HQL.out; unfold maxLen; omega
                  case d4pv => have := HQL.out; omega
                  case d5pv => simp; have := HSZT.out; omega
                  intro g cap w5 hown5 hgrow hat _
                  have hmb : ∀ r, (Value.slice OB q ob).ownBlock = some r → w.heap.size + 2 ≤ r := fun r hr => (HOT.out.lt r hr).1
                  have hl4 : w.heap.size + 2 ≤ wt.heap.size := by have := HSZT.out; omega
                  have HB5 := Lib.hid ((HBW.out.alloc (by omega) (.cells #[.int .i64 y.id, sv y.it.md, sv y.it.nm, sv y.it.sh] 39)).grown hgrow (by simp; omega) (fun r hr => by have := hmb r hr; omega))
                  have HX51 := Lib.hid (((hgrow.block _ (by simp; omega) (fun e => by have := hmb _ e.symm; omega)).trans (heap_alloc_old _ _ (by omega))).trans HXT1.out)
                  have HX52 := Lib.hid (((hgrow.block _ (by simp; omega) (fun e => by have := hmb _ e.symm; omega)).trans (heap_alloc_old _ _ (by omega))).trans HXT2.out)
                  have HO5 := Lib.hid hown5
                  clear hown5 hgrow hat hmb
                  go_wp2
                  go_roundw
                  case rel =>
                    refine ⟨k2 + 1, by omega, by go_num, HB5.out, HX51.out, HX52.out, ?_⟩
                    rw [HTK.out, HMV.out, if_pos HNE.out, List.length_append, ← HQ.out, flt_append, flt_one]
                    exact HO5.out
                  case measure => simp [intOf]; omega
              · have e1' : ¬ (bs z.it.md).toList = (bs y.it.md).toList := fun e => e1 (by rwa [bs_toList, bs_toList] at e)
                have e1'' : ((bs z.it.md).toList == (bs y.it.md).toList) = false := by simpa using e1'
                have HNE : Hid (decide (z.key ≠ y.key) = true) := Lib.hid (by simpa using fun e => e1 (congrArg Prod.fst e))
                clear e1
                go_wp2
                refine NoPanic.normal ?_
                go_wp2_with (at_builtin; refine wpList_append_lies _ rfl _ _ 27 rfl (w.heap.size + 2) 39 i0 _ 4 56 Try.underlying27 hi hz0 hz1 hz2 rfl (by omega) _ q (flt idC (mvs old (now.take k2))) rfl (HOT.out.alloc _) ⟨wt.heap.size, 0, none⟩ 1 1 (idC y) rfl rfl ?d1qv ?d2qv (by omega) ?d3qv ?d4qv ?d5qv _ rfl ?_)
                case d1qv => exact World.news_of_block (cs := #[.int .i64 y.id, sv y.it.md, sv y.it.nm, sv y.it.sh]) (alloc1 wt _)
                case d2qv => exact idC_one y
                case d3qv => have := HQL.out; unfold maxLen; omega
                case d4qv => have := HQL.out; omega
                case d5qv => simp; have := HSZT.out; omega
                intro g cap w5 hown5 hgrow hat _
                have hmb : ∀ r, (Value.slice OB q ob).ownBlock = some r → w.heap.size + 2 ≤ r := fun r hr => (HOT.out.lt r hr).1
                have hl4 : w.heap.size + 2 ≤ wt.heap.size := by have := HSZT.out; omega
                have HB5 := Lib.hid ((HBW.out.alloc (by omega) (.cells #[.int .i64 y.id, sv y.it.md, sv y.it.nm, sv y.it.sh] 39)).grown hgrow (by simp; omega) (fun r hr => by have := hmb r hr; omega))
                have HX51 := Lib.hid (((hgrow.block _ (by simp; omega) (fun e => by have := hmb _ e.symm; omega)).trans (heap_alloc_old _ _ (by omega))).trans HXT1.out)
                have HX52 := Lib.hid (((hgrow.block _ (by simp; omega) (fun e => by have := hmb _ e.symm; omega)).trans (heap_alloc_old _ _ (by omega))).trans HXT2.out)
                have HO5 := Lib.hid hown5
                clear hown5 hgrow hat hmb
                go_wp2
                go_roundw
                case rel =>
                  refine ⟨k2 + 1, by omega, by go_num, HB5.out, HX51.out, HX52.out, ?_⟩
                  rw [HTK.out, HMV.out, if_pos HNE.out, List.length_append, ← HQ.out, flt_append, flt_one]
                  exact HO5.out
                case measure => simp [intOf]; omega
          · have hidb : (z.id == y.id) = false := by simpa using hid
            have HID := Lib.hid hid
            clear hid
            go_wp2
            refine NoPanic.normal ?_
            go_wp2
            go_roundw
            case rel =>
              refine ⟨r + 1, by omega, by go_num, HB.out.trans ((Below.refl _ wr).drew.mono hsr), HX1.out, HX2.out, (Kp.refl (fun _ => False) wr).drew.own HO.out (fun _ _ e => e.elim), fun u hu => ?_⟩
              rw [List.take_add_one, HZ.out] at hu
              rcases List.mem_append.1 hu with hu | hu
              · exact HNO.out u hu
              · simp at hu
                subst hu
                exact HID.out
            case measure => simp [intOf]; omega
        · have hre : old.take r = old := List.take_of_length_le (by rw [← HM.out]; omega)
          have HMV : Hid (movedB old y = false) := Lib.hid (by
            have h1 := HNO.out
            rw [hre] at h1
            unfold movedB
            rw [seekX_none h1])
          clear hre
          go_wp2
          go_roundw
          case rel =>
            refine ⟨k2 + 1, by omega, by go_num, HB.out, HX1.out, HX2.out, ?_⟩
            rw [HTK.out, HMV.out]
            simp only [Bool.false_eq_true, if_false, List.append_nil]
            rw [← HQ.out]
            exact HO.out
          case measure => simp [intOf]; omega
    · have HO := Lib.hid hO
      have HB := Lib.hid hB
      subst hov
      clear hO hB hX1 hX2
      go_wp2
      go_ret
      have hx : now.take k2 = now := List.take_of_length_le (by rw [← HM2.out]; omega)
      have ho := HO.out
      rw [hx] at ho ⊢
      exact ⟨OA, oc, rfl, hoc, ownMono ho (by omega), HB.out⟩
end Go.Proofs.Ytmnhgkhidepojaa
