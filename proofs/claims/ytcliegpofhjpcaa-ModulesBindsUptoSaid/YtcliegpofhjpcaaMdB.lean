/-
  The walk of ref06.bind.
  Conditions: the list is at most 10^8 long and ascends.
-/
import Derived.Test.YtcliegpofhjpcaaMdT
import Derived.Test.YtcliegpofhjpcaaBexp
import Derived.Test.YtcliegpofhjpcaaBtwk
import Derived.Test.YtcliegpofhjpcaaBown
namespace Go.Proofs.Ytcliegpofhjpcaa
open Go.RowKit

/-- The list with one bind more. -/
def BindRes (S : Nat → Prop) (l : List Key) (b : Key) (w : World) (e : Ending) (w' : World) : Prop :=
  ∃ (A : Option Addr) (c : Nat) (l' : List Key), e = .returned (.slice A l'.length c) ∧ l'.length ≤ c ∧ l'.length ≤ l.length + 1 ∧ AscK l' ∧ (∀ x, x ∈ l' ↔ x = b ∨ x ∈ l) ∧ Row w' (fun y => S y ∨ Fr w.heap.size w'.heap.size y) A (flt bdC l') ∧ Below w.heap.size w w'
def bdPhi (B k : Nat) (xs : List Value) (b : Key) (i : Nat) (v : Value) (u : World) : Prop :=
  match i with
  | 4 => v = bdV b
  | 3 => ∃ (A : Option Addr) (c : Nat), v = .slice A k c ∧ u.ownsRow B 42 2 (.slice A k c) k xs
  | 5 => ∃ g, v = .slice (some ⟨g, 0, none⟩) 1 1 ∧ B ≤ g ∧ u.heap[g]? = some (.cells #[sv b.1, sv b.2] 42 (0, 0))
  | _ => True
theorem bdPhi_go {B k : Nat} {xs : List Value} {b : Key} (i : Nat) (v : Value) (u u' : World) (h : bdPhi B k xs b i v u) (hb : Below u.heap.size u u') : bdPhi B k xs b i v u' := by
  have hk : Kp (fun _ => False) u u' := Kp.ofBelow hb
  unfold bdPhi at h ⊢
  split at h
  · exact h
  · obtain ⟨A, c, h1, h2⟩ := h
    exact ⟨A, c, h1, hk.own h2 fun _ _ e => e⟩
  · obtain ⟨g, h1, h2, h3⟩ := h
    exact ⟨g, h1, h2, hk.heap h3 fun e => e⟩
  · trivial
set_option maxHeartbeats 1600000 in
set_option maxRecDepth 100000 in
theorem bind_any (S : Nat → Prop) (l : List Key) (b : Key) (A : Option Addr) (c : Nat) (w : World) (hS : ∀ y, S y → Lt w.heap.size y) (hc : l.length ≤ c) (hl : l.length ≤ 100000000) (hasc : AscK l) (h : Row w S A (flt bdC l)) :
    Calls Try.prog 27 #[.slice A l.length c, bdV b] w (BindRes S l b w) := by
  obtain ⟨n, hn⟩ : ∃ n, n = l.length := ⟨_, rfl⟩
  have hx0 := alloc1 w (.cells #[sv b.1, sv b.2] 42)
  have hb0 : Below w.heap.size w (w.alloc (.cells #[sv b.1, sv b.2] 42)) := (Below.refl _ _).alloc (Nat.le_refl _) _
  have hs0 : w.heap.size < (w.alloc (.cells #[sv b.1, sv b.2] 42)).heap.size := by simp
  rw [← hn] at hc hl ⊢
  have HN := Lib.hid hn
  have HR := Lib.hid h
  have HSLT := Lib.hid hS
  have HASC := Lib.hid hasc
  have HX0 := Lib.hid (And.intro hs0 hx0)
  have HB0 := Lib.hid hb0
  clear hn h hS hasc hx0 hb0 hs0
  go_enter Try.func27, Try.ntmps27
  go_wp2_with fail
  obtain ⟨w0, hw0⟩ : ∃ w0, w0 = w.alloc (.cells #[sv b.1, sv b.2] 42) := ⟨_, rfl⟩
  rw [← hw0] at HX0 HB0 ⊢
  clear hw0
  go_loopw [5] (fun i wr => ∃ k : Nat, k ≤ n ∧ i = .int .i64 k ∧ Below w0.heap.size w0 wr ∧ ∀ x ∈ l.take k, ltKey x b = true) (fun i _ => n - (intOf i).toNat)
  case atStart => exact ⟨0, by omega, rfl, Below.refl _ _, fun x hx => by simp at hx⟩
  case round =>
    obtain ⟨k, hkn, rfl, hB, hP⟩ := hrel
    have HB := Lib.hid hB
    have HPL := Lib.hid hP
    have HBW := Lib.hid (HB0.out.trans (hB.mono HB0.out.size))
    clear hB hP
    by_cases hlt : k < n
    · obtain ⟨x, hx⟩ : ∃ x, l[k]? = some x := ⟨_, List.getElem?_eq_getElem (by rw [← HN.out]; exact hlt)⟩
      have hrow := HR.out.keep ((kept_below HBW.out).sub HSLT.out)
      obtain ⟨ad, hA, _, a0, a1⟩ := bd_at hrow hx
      have hbx2 := (HB.out.block _ HX0.out.1).trans HX0.out.2
      have c0 : wr.cell? ⟨w.heap.size, 0, none⟩ = some (sv b.1) := (Lib.cell_of_heap hbx2 _).trans rfl
      have c1 : wr.cell? ⟨w.heap.size, 1, none⟩ = some (sv b.2) := (Lib.cell_of_heap hbx2 _).trans rfl
      have hik : (0 : Int) ≤ (k : Int) ∧ (k : Int) < (n : Int) := ⟨by omega, by omega⟩
      have HX := Lib.hid hx
      have HTK : Hid (l.take (k + 1) = l.take k ++ [x]) := Lib.hid (by rw [List.take_add_one, hx]; rfl)
      have HAD := Lib.hid hA
      clear hrow hx hbx2
      rw [hA]
      clear hA
      go_wp2_with fail
      refine wp_region_held' (AtCells [(ad.add (k * 2), sv x.1), (⟨(ad.add (k * 2)).block, (ad.add (k * 2)).off + 1, none⟩, sv x.2), (⟨w.heap.size, 0, none⟩, sv b.1), (⟨w.heap.size, 1, none⟩, sv b.2)]) [] [0, 1, 2, 3, 4, 5, 6, 7, 8, 9, 10, 11, 12, 13, 14, 15, 16, 17, 18, 19, 20, 21, 22, 23, 24, 25, 26, 27, 28, 29, 30, 31, 32, 33] [] [] (by kernel_rfl) (by kernel_rfl) ?s0 ?h0
      case s0 => exact ⟨a0, a1, c0, c1, trivial⟩
      case h0 =>
      clear a0 a1 c0 c1
      simp only [opsAt, List.filterMap_cons, List.filterMap_nil, List.getElem?_toArray, List.getElem?_cons_succ, List.getElem?_cons_zero]
      refine wpFloat_nil ?_
      refine wpLoad_step ?va0 rfl (fun w' hS => ?ya0) ?ka0
      case ya0 =>
        obtain ⟨g0, g1, g2, g3, _⟩ := hS
        go_simp
        try rfl
      case ka0 =>
      go_simp
      refine wpLoad_step ?va1 rfl (fun w' hS => ?ya1) ?ka1
      case ya1 =>
        obtain ⟨g0, g1, g2, g3, _⟩ := hS
        go_simp
        try rfl
      case ka1 =>
      go_simp
      refine wpLoad_step ?va2 rfl (fun w' hS => ?ya2) ?ka2
      case ya2 =>
        obtain ⟨g0, g1, g2, g3, _⟩ := hS
        go_simp
        try rfl
      case ka2 =>
      go_simp
      refine wpLoad_step ?va3 rfl (fun w' hS => ?ya3) ?ka3
      case ya3 =>
        obtain ⟨g0, g1, g2, g3, _⟩ := hS
        go_simp
        try rfl
      case ka3 =>
      go_simp
      refine wpLoad_step ?va4 rfl (fun w' hS => ?ya4) ?ka4
      case ya4 =>
        obtain ⟨g0, g1, g2, g3, _⟩ := hS
        go_simp
        try rfl
      case ka4 =>
      go_simp
      refine wpLoad_step ?va5 rfl (fun w' hS => ?ya5) ?ka5
      case ya5 =>
        obtain ⟨g0, g1, g2, g3, _⟩ := hS
        go_simp
        try rfl
      case ka5 =>
      go_simp
      refine wpLoad_step ?va6 rfl (fun w' hS => ?ya6) ?ka6
      case ya6 =>
        obtain ⟨g0, g1, g2, g3, _⟩ := hS
        go_simp
        try rfl
      case ka6 =>
      go_simp
      refine wpLoad_step ?va7 rfl (fun w' hS => ?ya7) ?ka7
      case ya7 =>
        obtain ⟨g0, g1, g2, g3, _⟩ := hS
        go_simp
        try rfl
      case ka7 =>
      go_simp
      refine wpLoad_step ?va8 rfl (fun w' hS => ?ya8) ?ka8
      case ya8 =>
        obtain ⟨g0, g1, g2, g3, _⟩ := hS
        go_simp
        try rfl
      case ka8 =>
      go_simp
      refine wpLoad_step ?va9 rfl (fun w' hS => ?ya9) ?ka9
      case ya9 =>
        obtain ⟨g0, g1, g2, g3, _⟩ := hS
        go_simp
        try rfl
      case ka9 =>
      go_simp
      refine wpLoad_step ?va10 rfl (fun w' hS => ?ya10) ?ka10
      case ya10 =>
        obtain ⟨g0, g1, g2, g3, _⟩ := hS
        go_simp
        try rfl
      case ka10 =>
      go_simp
      refine wpLoad_step ?va11 rfl (fun w' hS => ?ya11) ?ka11
      case ya11 =>
        obtain ⟨g0, g1, g2, g3, _⟩ := hS
        go_simp
        try rfl
      case ka11 =>
      go_simp
      refine wpLoad_step (.bool (Op.bytesLess x.1 b.1)) rfl (fun w' hS => ?y12) ?k12
      case y12 =>
        go_simp
        simp only [bs_toList]
      case k12 =>
      cases h1 : Op.bytesLess x.1 b.1 with
      | true =>
        have HLE : Hid (ltKey x b = true) := Lib.hid (by unfold ltKey; rw [h1]; rfl)
        clear h1
        refine wpLoad_step ?vb0 rfl (fun w' hS => ?yb0) ?kb0
        case yb0 =>
          obtain ⟨g0, g1, g2, g3, _⟩ := hS
          go_simp
          try rfl
        case kb0 =>
        go_simp
        refine wpLoad_skip rfl ?_
        go_simp
        refine wpLoad_skip rfl ?_
        go_simp
        refine wpLoad_skip rfl ?_
        go_simp
        refine wpLoad_skip rfl ?_
        go_simp
        refine wpLoad_skip rfl ?_
        go_simp
        refine wpLoad_skip rfl ?_
        go_simp
        refine wpLoad_skip rfl ?_
        go_simp
        refine wpLoad_skip rfl ?_
        go_simp
        refine wpLoad_skip rfl ?_
        go_simp
        refine wpLoad_skip rfl ?_
        go_simp
        refine wpLoad_skip rfl ?_
        go_simp
        refine wpLoad_skip rfl ?_
        go_simp
        refine wpLoad_skip rfl ?_
        go_simp
        refine wpLoad_skip rfl ?_
        go_simp
        refine wpLoad_skip rfl ?_
        go_simp
        refine wpLoad_skip rfl ?_
        go_simp
        refine wpLoad_skip rfl ?_
        go_simp
        refine wpLoad_skip rfl ?_
        go_simp
        refine wpLoad_step ?vc0 rfl (fun w' hS => ?yc0) ?kc0
        case yc0 =>
          obtain ⟨g0, g1, g2, g3, _⟩ := hS
          go_simp
          try rfl
        case kc0 =>
        go_simp
        refine wpLoad_step ?vc1 rfl (fun w' hS => ?yc1) ?kc1
        case yc1 =>
          obtain ⟨g0, g1, g2, g3, _⟩ := hS
          go_simp
          try rfl
        case kc1 =>
        go_simp
        refine wpLoad_nil ?_
        refine wpKeep_nil ?_
        go_wp2
        refine NoPanic.normal ?_
        go_wp2_with fail
        go_roundw
        case rel =>
          refine ⟨k + 1, by omega, by go_num, HB.out.drew, fun y hy => ?_⟩
          rw [HTK.out] at hy
          rcases List.mem_append.1 hy with hy | hy
          · exact HPL.out y hy
          · rw [List.mem_singleton.1 hy]
            exact HLE.out
        case measure => simp [intOf]; omega
      | false =>
        refine wpLoad_step ?vd13 rfl (fun w' hS => ?yd13) ?kd13
        case yd13 =>
          obtain ⟨g0, g1, g2, g3, _⟩ := hS
          go_simp
          try rfl
        case kd13 =>
        go_simp
        refine wpLoad_step ?vd14 rfl (fun w' hS => ?yd14) ?kd14
        case yd14 =>
          obtain ⟨g0, g1, g2, g3, _⟩ := hS
          go_simp
          try rfl
        case kd14 =>
        go_simp
        refine wpLoad_step ?vd15 rfl (fun w' hS => ?yd15) ?kd15
        case yd15 =>
          obtain ⟨g0, g1, g2, g3, _⟩ := hS
          go_simp
          try rfl
        case kd15 =>
        go_simp
        refine wpLoad_step ?vd16 rfl (fun w' hS => ?yd16) ?kd16
        case yd16 =>
          obtain ⟨g0, g1, g2, g3, _⟩ := hS
          go_simp
          try rfl
        case kd16 =>
        go_simp
        refine wpLoad_step ?vd17 rfl (fun w' hS => ?yd17) ?kd17
        case yd17 =>
          obtain ⟨g0, g1, g2, g3, _⟩ := hS
          go_simp
          try rfl
        case kd17 =>
        go_simp
        refine wpLoad_step ?vd18 rfl (fun w' hS => ?yd18) ?kd18
        case yd18 =>
          obtain ⟨g0, g1, g2, g3, _⟩ := hS
          go_simp
          try rfl
        case kd18 =>
        go_simp
        refine wpLoad_step ?vd19 rfl (fun w' hS => ?yd19) ?kd19
        case yd19 =>
          obtain ⟨g0, g1, g2, g3, _⟩ := hS
          go_simp
          try rfl
        case kd19 =>
        go_simp
        refine wpLoad_step ?vd20 rfl (fun w' hS => ?yd20) ?kd20
        case yd20 =>
          obtain ⟨g0, g1, g2, g3, _⟩ := hS
          go_simp
          try rfl
        case kd20 =>
        go_simp
        refine wpLoad_step (.bool (decide (x.1 = b.1))) rfl (fun w' hS => ?y21) ?k21
        case y21 =>
          go_simp
          simp only [bs_toList]
          by_cases h : x.1 = b.1 <;> simp [h]
        case k21 =>
        by_cases h2 : x.1 = b.1
        · have hq : decide (x.1 = b.1) = true := decide_eq_true h2
          have H2 := Lib.hid h2
          have H1 := Lib.hid h1
          rw [hq]
          clear hq h2 h1
          refine wpLoad_step ?ve22 rfl (fun w' hS => ?ye22) ?ke22
          case ye22 =>
            obtain ⟨g0, g1, g2, g3, _⟩ := hS
            go_simp
            try rfl
          case ke22 =>
          go_simp
          refine wpLoad_step ?ve23 rfl (fun w' hS => ?ye23) ?ke23
          case ye23 =>
            obtain ⟨g0, g1, g2, g3, _⟩ := hS
            go_simp
            try rfl
          case ke23 =>
          go_simp
          refine wpLoad_step ?ve24 rfl (fun w' hS => ?ye24) ?ke24
          case ye24 =>
            obtain ⟨g0, g1, g2, g3, _⟩ := hS
            go_simp
            try rfl
          case ke24 =>
          go_simp
          refine wpLoad_step ?ve25 rfl (fun w' hS => ?ye25) ?ke25
          case ye25 =>
            obtain ⟨g0, g1, g2, g3, _⟩ := hS
            go_simp
            try rfl
          case ke25 =>
          go_simp
          refine wpLoad_step ?ve26 rfl (fun w' hS => ?ye26) ?ke26
          case ye26 =>
            obtain ⟨g0, g1, g2, g3, _⟩ := hS
            go_simp
            try rfl
          case ke26 =>
          go_simp
          refine wpLoad_step ?ve27 rfl (fun w' hS => ?ye27) ?ke27
          case ye27 =>
            obtain ⟨g0, g1, g2, g3, _⟩ := hS
            go_simp
            try rfl
          case ke27 =>
          go_simp
          refine wpLoad_step ?ve28 rfl (fun w' hS => ?ye28) ?ke28
          case ye28 =>
            obtain ⟨g0, g1, g2, g3, _⟩ := hS
            go_simp
            try rfl
          case ke28 =>
          go_simp
          refine wpLoad_step ?ve29 rfl (fun w' hS => ?ye29) ?ke29
          case ye29 =>
            obtain ⟨g0, g1, g2, g3, _⟩ := hS
            go_simp
            try rfl
          case ke29 =>
          go_simp
          refine wpLoad_step (.bool (Op.bytesLess x.2 b.2)) rfl (fun w' hS => ?y30) ?k30
          case y30 =>
            go_simp
            simp only [bs_toList]
          case k30 =>
          cases h3 : Op.bytesLess x.2 b.2 with
          | true =>
            have HLE : Hid (ltKey x b = true) := Lib.hid (by unfold ltKey; rw [h3, decide_eq_true H2.out]; simp)
            clear h3
            refine wpLoad_step ?vf0 rfl (fun w' hS => ?yf0) ?kf0
            case yf0 =>
              obtain ⟨g0, g1, g2, g3, _⟩ := hS
              go_simp
              try rfl
            case kf0 =>
            go_simp
            refine wpLoad_step ?vf1 rfl (fun w' hS => ?yf1) ?kf1
            case yf1 =>
              obtain ⟨g0, g1, g2, g3, _⟩ := hS
              go_simp
              try rfl
            case kf1 =>
            go_simp
            refine wpLoad_step ?vf2 rfl (fun w' hS => ?yf2) ?kf2
            case yf2 =>
              obtain ⟨g0, g1, g2, g3, _⟩ := hS
              go_simp
              try rfl
            case kf2 =>
            go_simp
            refine wpLoad_nil ?_
            refine wpKeep_nil ?_
            go_wp2
            refine NoPanic.normal ?_
            go_wp2_with fail
            go_roundw
            case rel =>
              refine ⟨k + 1, by omega, by go_num, HB.out.drew, fun y hy => ?_⟩
              rw [HTK.out] at hy
              rcases List.mem_append.1 hy with hy | hy
              · exact HPL.out y hy
              · rw [List.mem_singleton.1 hy]
                exact HLE.out
            case measure => simp [intOf]; omega
          | false =>
            have HNL : Hid (∀ x, l[k]? = some x → ltKey x b = false) := Lib.hid fun y hy => by
              rw [HX.out] at hy
              cases hy
              unfold ltKey
              rw [h3, H1.out]
              simp
            clear h3
            refine wpLoad_step ?vg0 rfl (fun w' hS => ?yg0) ?kg0
            case yg0 =>
              obtain ⟨g0, g1, g2, g3, _⟩ := hS
              go_simp
              try rfl
            case kg0 =>
            go_simp
            refine wpLoad_step ?vg1 rfl (fun w' hS => ?yg1) ?kg1
            case yg1 =>
              obtain ⟨g0, g1, g2, g3, _⟩ := hS
              go_simp
              try rfl
            case kg1 =>
            go_simp
            refine wpLoad_step ?vg2 rfl (fun w' hS => ?yg2) ?kg2
            case yg2 =>
              obtain ⟨g0, g1, g2, g3, _⟩ := hS
              go_simp
              try rfl
            case kg2 =>
            go_simp
            refine wpLoad_nil ?_
            refine wpKeep_nil ?_
            go_wp2
            refine NoPanic.normal ?_
            go_wp2_with fail
            rw [← HAD.out]
            clear H1 H2 HTK HX HAD
            have HB2 := Lib.hid HB.out.drew
            have HBW2 := Lib.hid HBW.out.drew
            clear HB HBW
            obtain ⟨HB, HBW⟩ := And.intro HB2 HBW2
            clear HB2 HBW2
            generalize wr.drew = wr at *
            obtain ⟨x, hx⟩ : ∃ x, l[k]? = some x := ⟨_, List.getElem?_eq_getElem (by rw [← HN.out]; exact hlt)⟩
            have hrow := HR.out.keep ((kept_below HBW.out).sub HSLT.out)
            obtain ⟨ad, hA, _, a0, a1⟩ := bd_at hrow hx
            have hbx2 := (HB.out.block _ HX0.out.1).trans HX0.out.2
            have c0 : wr.cell? ⟨w.heap.size, 0, none⟩ = some (sv b.1) := (Lib.cell_of_heap hbx2 _).trans rfl
            have c1 : wr.cell? ⟨w.heap.size, 1, none⟩ = some (sv b.2) := (Lib.cell_of_heap hbx2 _).trans rfl
            have hik : (0 : Int) ≤ (k : Int) ∧ (k : Int) < (n : Int) := ⟨by omega, by omega⟩
            have HX := Lib.hid hx
            have HAD := Lib.hid hA
            clear hrow hx hbx2
            rw [hA]
            clear hA
            refine wp_region_held' (AtCells [(ad.add (k * 2), sv x.1), (⟨(ad.add (k * 2)).block, (ad.add (k * 2)).off + 1, none⟩, sv x.2), (⟨w.heap.size, 0, none⟩, sv b.1), (⟨w.heap.size, 1, none⟩, sv b.2)]) [] [0, 1, 2, 3, 4, 5, 6, 7, 8, 9, 10, 11] [] [] (by kernel_rfl) (by kernel_rfl) ?tI ?uI
            case tI => exact ⟨a0, a1, c0, c1, trivial⟩
            case uI =>
            clear a0 a1 c0 c1
            simp only [opsAt, List.filterMap_cons, List.filterMap_nil, List.getElem?_toArray, List.getElem?_cons_succ, List.getElem?_cons_zero]
            refine wpFloat_nil ?_
            refine wpLoad_step ?vIt0 rfl (fun w' hS => ?yIt0) ?kIt0
            case yIt0 =>
              obtain ⟨g0, g1, g2, g3, _⟩ := hS
              go_simp
              try rfl
            case kIt0 =>
            go_simp
            refine wpLoad_step ?vIt1 rfl (fun w' hS => ?yIt1) ?kIt1
            case yIt1 =>
              obtain ⟨g0, g1, g2, g3, _⟩ := hS
              go_simp
              try rfl
            case kIt1 =>
            go_simp
            refine wpLoad_step ?vIt2 rfl (fun w' hS => ?yIt2) ?kIt2
            case yIt2 =>
              obtain ⟨g0, g1, g2, g3, _⟩ := hS
              go_simp
              try rfl
            case kIt2 =>
            go_simp
            refine wpLoad_step ?vIt3 rfl (fun w' hS => ?yIt3) ?kIt3
            case yIt3 =>
              obtain ⟨g0, g1, g2, g3, _⟩ := hS
              go_simp
              try rfl
            case kIt3 =>
            go_simp
            refine wpLoad_step ?vIt4 rfl (fun w' hS => ?yIt4) ?kIt4
            case yIt4 =>
              obtain ⟨g0, g1, g2, g3, _⟩ := hS
              go_simp
              try rfl
            case kIt4 =>
            go_simp
            refine wpLoad_step ?vIt5 rfl (fun w' hS => ?yIt5) ?kIt5
            case yIt5 =>
              obtain ⟨g0, g1, g2, g3, _⟩ := hS
              go_simp
              try rfl
            case kIt5 =>
            go_simp
            refine wpLoad_step ?vIt6 rfl (fun w' hS => ?yIt6) ?kIt6
            case yIt6 =>
              obtain ⟨g0, g1, g2, g3, _⟩ := hS
              go_simp
              try rfl
            case kIt6 =>
            go_simp
            refine wpLoad_step ?vIt7 rfl (fun w' hS => ?yIt7) ?kIt7
            case yIt7 =>
              obtain ⟨g0, g1, g2, g3, _⟩ := hS
              go_simp
              try rfl
            case kIt7 =>
            go_simp
            refine wpLoad_step ?vIt8 rfl (fun w' hS => ?yIt8) ?kIt8
            case yIt8 =>
              obtain ⟨g0, g1, g2, g3, _⟩ := hS
              go_simp
              try rfl
            case kIt8 =>
            go_simp
            refine wpLoad_step ?vIt9 rfl (fun w' hS => ?yIt9) ?kIt9
            case yIt9 =>
              obtain ⟨g0, g1, g2, g3, _⟩ := hS
              go_simp
              try rfl
            case kIt9 =>
            go_simp
            refine wpLoad_step (.bool (decide (x = b))) rfl (fun w' hS => ?zI) ?xI
            case zI =>
              go_simp
              simp only [bs_toList]
              by_cases h1 : x.1 = b.1 <;> by_cases h2 : x.2 = b.2 <;> simp [h1, h2, Prod.ext_iff]
            case xI =>
            by_cases he : x = b
            · have hq : decide (x = b) = true := decide_eq_true he
              have HBM : Hid (b ∈ l) := Lib.hid (by rw [← he]; exact List.mem_of_getElem? HX.out)
              rw [hq]
              clear hq he
              refine wpLoad_step ?vIv0 rfl (fun w' hS => ?yIv0) ?kIv0
              case yIv0 =>
                obtain ⟨g0, g1, g2, g3, _⟩ := hS
                go_simp
                try rfl
              case kIv0 =>
              go_simp
              refine wpLoad_nil ?_
              refine wpKeep_nil ?_
              go_wp2
              refine NoPanic.normal ?_
              go_wp2_with fail
              go_ret
              refine ⟨some ad, c, l, by rw [← HN.out]; rfl, by rw [← HN.out]; exact hc, by omega, HASC.out, fun x => ⟨.inr, fun h => h.elim (fun e => e ▸ HBM.out) id⟩, ?_, HBW.out.drew⟩
              have := HR.out.keep ((kept_below HBW.out).sub HSLT.out)
              rw [HAD.out] at this
              exact Row.more this fun y hy => .inl hy
            · have hq : decide (x = b) = false := decide_eq_false he
              have HNE : Hid (∀ x, l[k]? = some x → x ≠ b) := Lib.hid fun x' hx' => by rw [HX.out] at hx'; cases hx'; exact he
              rw [hq]
              clear hq he
              refine wpLoad_step ?vIw0 rfl (fun w' hS => ?yIw0) ?kIw0
              case yIw0 =>
                obtain ⟨g0, g1, g2, g3, _⟩ := hS
                go_simp
                try rfl
              case kIw0 =>
              go_simp
              refine wpLoad_nil ?_
              refine wpKeep_nil ?_
              go_wp2
              refine NoPanic.normal ?_
              go_wp2_with fail
              rw [← HAD.out]
              have HB2 := Lib.hid HB.out.drew
              have HBW2 := Lib.hid HBW.out.drew
              clear HB HBW
              obtain ⟨HB, HBW⟩ := And.intro HB2 HBW2
              clear HB2 HBW2
              generalize wr.drew = wr at *
              have hFR := HR.out.front (k * 2)
              rw [flt_take bdC_len] at hFR
              have hBK := back_row bdC_len HR.out (ys := l) HN.out.symm hc k
              obtain ⟨SB, hSB⟩ : ∃ SB, SB = backOf A 2 c k := ⟨_, rfl⟩
              rw [← hSB] at hBK
              have HSB := Lib.hid hSB
              have hkept : Kept S w wr := (kept_below HBW.out).sub HSLT.out
              have HFR := Lib.hid (hFR.keep hkept)
              have HBK := Lib.hid (hBK.keep hkept)
              have hbx := HB.out.block _ HX0.out.1
              have hbx2 := hbx.trans HX0.out.2
              have c0 : wr.cell? ⟨w.heap.size, 0, none⟩ = some (sv b.1) := (Lib.cell_of_heap hbx2 _).trans rfl
              have c1 : wr.cell? ⟨w.heap.size, 1, none⟩ = some (sv b.2) := (Lib.cell_of_heap hbx2 _).trans rfl
              have hkc : (0 : Int) ≤ (k : Int) ∧ (k : Int) ≤ (c : Int) ∧ (k : Int) ≤ (n : Int) := ⟨by omega, by omega, by omega⟩
              have hwsz := HBW.out.size
              obtain ⟨i0, hi, hz0, hz1, hz2⟩ := info_parts infoBind
              clear hFR hBK hSB hkept hbx hbx2
              refine wp_region_fexp (fun u => Below wr.heap.size wr u ∧ AtCells [(⟨w.heap.size, 0, none⟩, sv b.1), (⟨w.heap.size, 1, none⟩, sv b.2)] u) (fun u v => Below u.heap.size u v) (bdPhi w.heap.size k (flt bdC (l.take k)) b) [0, 1, 2, 7, 8, 9] [] [(3, 58), (4, 59), (5, 60)] [6, 10, 11] (by kernel_rfl) (by kernel_rfl) (by kernel_rfl) (fun _ => Below.refl _ _) (fun a b c h h' => h.trans (h'.mono h.size)) bdPhi_go ?sIw ?hIw
              case sIw => exact ⟨(Below.refl _ wr).drew, c0, c1, trivial⟩
              case hIw =>
              have HC : Hid (∀ u, Below wr.heap.size wr u → AtCells [(⟨w.heap.size, 0, none⟩, sv b.1), (⟨w.heap.size, 1, none⟩, sv b.2)] u) := Lib.hid fun u hu => ⟨(hu.cell (block_lt_of_cell c0)).trans c0, (hu.cell (block_lt_of_cell c1)).trans c1, trivial⟩
              clear c0 c1
              simp only [opsAt, List.filterMap_cons, List.filterMap_nil, List.getElem?_toArray, List.getElem?_cons_succ, List.getElem?_cons_zero]
              refine wpFloat_step ?vIwa0 rfl (fun w' => ?yIwa0) ?kIwa0
              case yIwa0 =>
                go_simp
                try rfl
              case kIwa0 =>
              go_simp
              refine wpFloat_step ?vIwa1 rfl (fun w' => ?yIwa1) ?kIwa1
              case yIwa1 =>
                go_simp
                try rfl
              case kIwa1 =>
              go_simp
              refine wpFloat_step (.slice A k c) rfl (fun w' => ?yIw2) ?kIw2
              case yIw2 =>
                go_simp
                try simp only [← front_of A k c 2]
                try rfl
              case kIw2 =>
              go_simp
              refine wpFloat_step ?vIwb7 rfl (fun w' => ?yIwb7) ?kIwb7
              case yIwb7 =>
                go_simp
                try rfl
              case kIwb7 =>
              go_simp
              refine wpFloat_step ?vIwb8 rfl (fun w' => ?yIwb8) ?kIwb8
              case yIwb8 =>
                go_simp
                try rfl
              case kIwb8 =>
              go_simp
              refine wpFloat_step (.slice SB (n - k) (c - k)) rfl (fun w' => ?yIw9) ?kIw9
              case yIw9 =>
                go_simp
                rw [HSB.out]
                try rfl
              case kIw9 =>
              go_simp
              refine wpFloat_nil ?_
              refine ⟨?szIw, ?stIw, (fun i hi => by cases hi), ?finIw⟩
              case szIw =>
                intro x hx
                simp only [List.mem_cons, List.not_mem_nil, or_false] at hx
                rcases hx with rfl | rfl | rfl <;> simp
              case stIw =>
                intro x hx _
                simp only [List.mem_cons, List.not_mem_nil, or_false] at hx
                rcases hx with rfl | rfl | rfl
                · intro a' w7 K hI hK
                  have e57 := hI.old 57 _ rfl (by decide)
                  have hS := hI.hold
                  have hK : ∀ v w', Below w7.heap.size w7 w' → _ → (∃ (A : Option Addr) (c : Nat), v = .slice A k c ∧ w'.ownsRow w.heap.size 42 2 (.slice A k c) k (flt bdC (l.take k))) → K (a'.put (some 58) v) w' := hK
                  have hfr := (HFR.out.keep ((kept_below hS.1).sub fun y hy => by have := HSLT.out y hy; unfold Lt at this ⊢; omega)).more (S' := S) fun _ h => h
                  have hsz7 := hS.1.size
                  clear hI
                  refine wpOp_go rfl rfl ?_
                  refine wp_append_row _ _ 33 rfl w.heap.size 42 i0 _ 2 32 Try.underlying33 hi hz0 hz1 hz2 rfl (by omega) (.slice none 0 0) 0 [] rfl (World.ownsRow_nil _ _ _ _) S A k c (flt bdC (l.take k)) (eval_tmp e57) (by rw [flt_length bdC_len, List.length_take, ← HN.out]; congr 1; omega) hfr (flt_one' bdC_one _) (by unfold maxLen; omega) (by omega) (by omega) ?_
                  intro v' w8 hown hg _
                  rw [Nat.zero_add, List.nil_append] at hown
                  have hb8 : Below w7.heap.size w7 w8 := (Below.refl _ w7).grown hg (Nat.le_refl _) (fun r hr => by cases hr)
                  obtain ⟨A8, c8, rfl, _⟩ := own_slice hown
                  exact hK _ _ hb8 ⟨hS.1.trans (hb8.mono hsz7), HC.out _ (hS.1.trans (hb8.mono hsz7))⟩ ⟨A8, c8, rfl, hown⟩
                · intro a' w7 K hI hK
                  have e3 := hI.old 3 _ rfl (by decide)
                  have hS := hI.hold
                  have hK : ∀ v w', Below w7.heap.size w7 w' → _ → (v = bdV b) → K (a'.put (some 59) v) w' := hK
                  obtain ⟨g0, g1, _⟩ := hS.2
                  clear hI
                  refine wpOp_go rfl rfl ?_
                  go_simp
                  exact hK _ _ (Below.refl _ _) hS rfl
                · intro a' w7 K hI hK
                  obtain ⟨v1, e59, hv⟩ := hI.new (4, 59) (by decide) (by kernel_rfl)
                  obtain rfl : v1 = bdV b := hv
                  have hS := hI.hold
                  have hK : ∀ v w', Below w7.heap.size w7 w' → _ → (∃ g, v = .slice (some ⟨g, 0, none⟩) 1 1 ∧ w.heap.size ≤ g ∧ w'.heap[g]? = some (.cells #[sv b.1, sv b.2] 42 (0, 0))) → K (a'.put (some 60) v) w' := hK
                  have hb7 : Below w7.heap.size w7 (w7.alloc (.cells #[sv b.1, sv b.2] 42)) := (Below.refl _ _).alloc (Nat.le_refl _) _
                  have ha7 := alloc1 w7 (.cells #[sv b.1, sv b.2] 42)
                  have hsz7 := hS.1.size
                  clear hI
                  refine wpOp_go rfl rfl ?_
                  go_simp
                  exact hK _ _ hb7 ⟨hS.1.trans (hb7.mono hsz7), HC.out _ (hS.1.trans (hb7.mono hsz7))⟩ ⟨_, rfl, by omega, ha7⟩
              case finIw =>
                intro vs w6 _ hS6 hΦ
                have q3 : ∃ (A : Option Addr) (c : Nat), vs 3 = .slice A k c ∧ w6.ownsRow w.heap.size 42 2 (.slice A k c) k (flt bdC (l.take k)) := hΦ (3, 58) (by decide)
                have q4 : vs 4 = bdV b := hΦ (4, 59) (by decide)
                have q5 : ∃ g, vs 5 = .slice (some ⟨g, 0, none⟩) 1 1 ∧ w.heap.size ≤ g ∧ w6.heap[g]? = some (.cells #[sv b.1, sv b.2] 42 (0, 0)) := hΦ (5, 60) (by decide)
                obtain ⟨A3, c3, e3, hown3⟩ := q3
                obtain ⟨g5, e5, hg5, hblk⟩ := q5
                simp only [putD, e3, q4, e5]
                clear e3 q4 e5 hΦ vs
                have hb6 := hS6.1
                have hs6 := hb6.size
                have HBK6 := Lib.hid (HBK.out.keep ((kept_below hb6).sub fun y hy => by have := HSLT.out y hy; unfold Lt at this ⊢; omega))
                have HB6 := Lib.hid hb6
                have hrow5 : Row w6 (fun y => y = g5) (some ⟨g5, 0, none⟩) (bdC b) := row_heap hblk rfl rfl
                clear hS6 hb6 HC HFR HBK
                simp only [opsAt, List.filterMap_cons, List.filterMap_nil, List.getElem?_toArray, List.getElem?_cons_succ, List.getElem?_cons_zero]
                refine (wpList_append_row rfl _ _ 33 rfl w.heap.size 42 i0 _ 2 32 Try.underlying33 hi hz0 hz1 hz2 rfl (by omega) (.slice A3 k c3) k (flt bdC (l.take k)) rfl hown3 (fun y => y = g5) (some ⟨g5, 0, none⟩) 1 1 (bdC b) rfl rfl hrow5 (bdC_one b) (by unfold maxLen; omega) (by omega) (by omega) ?_)
                intro v7 w7 hown7 hg7 _
                obtain ⟨A7, c7, rfl, _⟩ := own_slice hown7
                have hlt3 := hown3.lt
                have hk7 : Kp (fun y => w.heap.size ≤ y) w6 w7 := (Kp.refl _ _).grown hg7 (fun r hr _ => (hlt3 r hr).1)
                have hs7 := hk7.size
                have hrowB := HBK6.out.keep (hk7.kept fun y hy => ⟨by have := HSLT.out y hy; unfold Lt at this; omega, by have := HSLT.out y hy; unfold Lt at this; omega⟩)
                have HK7 := Lib.hid hk7
                have hlt7 := hown7.lt
                refine (wpList_append_row rfl _ _ 33 rfl w.heap.size 42 i0 _ 2 32 Try.underlying33 hi hz0 hz1 hz2 rfl (by omega) (.slice A7 (k + 1) c7) (k + 1) (flt bdC (l.take k) ++ bdC b) rfl hown7 S SB (n - k) (c - k) (flt bdC (l.drop k)) rfl (by rw [flt_length bdC_len, List.length_drop, ← HN.out]) hrowB (flt_one' bdC_one _) (by unfold maxLen; omega) (by omega) (by omega) ?_)
                intro v8 w8 hown8 hg8 _
                have hk8 : Kp (fun y => w.heap.size ≤ y) w7 w8 := (Kp.refl _ _).grown hg8 (fun r hr _ => (hlt7 r hr).1)
                obtain ⟨LN, hLN⟩ : ∃ LN, LN = l.take k ++ b :: l.drop k := ⟨_, rfl⟩
                have hLNl : LN.length = n + 1 := by
                  rw [hLN, List.length_append, List.length_cons, List.length_take, List.length_drop, ← HN.out]
                  omega
                rw [show flt bdC (l.take k) ++ bdC b ++ flt bdC (l.drop k) = flt bdC LN by rw [hLN, flt_append, flt_cons, List.append_assoc], show k + 1 + (n - k) = n + 1 by omega] at hown8
                obtain ⟨A8, c8, rfl, _⟩ := own_slice hown8
                have hk68 := hk7.trans hk8 (fun _ _ e => e)
                have hb8 : Below w.heap.size w w8 := kp_below (HBW.out.trans (HB6.out.mono hwsz)) hk68 fun _ e => e
                have HRES : Hid (BindRes S l b w (.returned (.slice A8 (n + 1) c8)) w8) := Lib.hid ⟨A8, c8, LN, by rw [hLNl], by rw [hLNl]; exact (own_le hown8).1, by rw [hLNl, HN.out]; exact Nat.le_refl _, by rw [hLN]; exact HASC.out.put HPL.out (AscK.at_ HNL.out HNE.out), fun x => by rw [hLN]; exact mem_put k x, Row.ofOwn hown8 fun g _ h3 h4 => .inr ⟨h3, h4⟩, hb8⟩
                clear hown3 hown7 hown8 hg7 hg8 hlt3 hlt7 hk7 hk8 hk68 hb8 hrowB hrow5 hblk hLN hLNl HK7 HBK6 HB6 hi hz0 hz1 hz2
                go_wp2
                refine NoPanic.normal ?_
                go_wp2
                go_ret
                exact HRES.out
        · have hq : decide (x.1 = b.1) = false := decide_eq_false h2
          have HNL : Hid (∀ x, l[k]? = some x → ltKey x b = false) := Lib.hid fun y hy => by
            rw [HX.out] at hy
            cases hy
            unfold ltKey
            rw [h1, hq]
            rfl
          rw [hq]
          clear hq h2 h1
          refine wpLoad_step ?vh0 rfl (fun w' hS => ?yh0) ?kh0
          case yh0 =>
            obtain ⟨g0, g1, g2, g3, _⟩ := hS
            go_simp
            try rfl
          case kh0 =>
          go_simp
          refine wpLoad_skip rfl ?_
          go_simp
          refine wpLoad_skip rfl ?_
          go_simp
          refine wpLoad_skip rfl ?_
          go_simp
          refine wpLoad_skip rfl ?_
          go_simp
          refine wpLoad_skip rfl ?_
          go_simp
          refine wpLoad_skip rfl ?_
          go_simp
          refine wpLoad_skip rfl ?_
          go_simp
          refine wpLoad_skip rfl ?_
          go_simp
          refine wpLoad_step ?vi0 rfl (fun w' hS => ?yi0) ?ki0
          case yi0 =>
            obtain ⟨g0, g1, g2, g3, _⟩ := hS
            go_simp
            try rfl
          case ki0 =>
          go_simp
          refine wpLoad_step ?vi1 rfl (fun w' hS => ?yi1) ?ki1
          case yi1 =>
            obtain ⟨g0, g1, g2, g3, _⟩ := hS
            go_simp
            try rfl
          case ki1 =>
          go_simp
          refine wpLoad_step ?vi2 rfl (fun w' hS => ?yi2) ?ki2
          case yi2 =>
            obtain ⟨g0, g1, g2, g3, _⟩ := hS
            go_simp
            try rfl
          case ki2 =>
          go_simp
          refine wpLoad_nil ?_
          refine wpKeep_nil ?_
          go_wp2
          refine NoPanic.normal ?_
          go_wp2_with fail
          rw [← HAD.out]
          clear HTK HX HAD
          have HB2 := Lib.hid HB.out.drew
          have HBW2 := Lib.hid HBW.out.drew
          clear HB HBW
          obtain ⟨HB, HBW⟩ := And.intro HB2 HBW2
          clear HB2 HBW2
          generalize wr.drew = wr at *
          obtain ⟨x, hx⟩ : ∃ x, l[k]? = some x := ⟨_, List.getElem?_eq_getElem (by rw [← HN.out]; exact hlt)⟩
          have hrow := HR.out.keep ((kept_below HBW.out).sub HSLT.out)
          obtain ⟨ad, hA, _, a0, a1⟩ := bd_at hrow hx
          have hbx2 := (HB.out.block _ HX0.out.1).trans HX0.out.2
          have c0 : wr.cell? ⟨w.heap.size, 0, none⟩ = some (sv b.1) := (Lib.cell_of_heap hbx2 _).trans rfl
          have c1 : wr.cell? ⟨w.heap.size, 1, none⟩ = some (sv b.2) := (Lib.cell_of_heap hbx2 _).trans rfl
          have hik : (0 : Int) ≤ (k : Int) ∧ (k : Int) < (n : Int) := ⟨by omega, by omega⟩
          have HX := Lib.hid hx
          have HAD := Lib.hid hA
          clear hrow hx hbx2
          rw [hA]
          clear hA
          refine wp_region_held' (AtCells [(ad.add (k * 2), sv x.1), (⟨(ad.add (k * 2)).block, (ad.add (k * 2)).off + 1, none⟩, sv x.2), (⟨w.heap.size, 0, none⟩, sv b.1), (⟨w.heap.size, 1, none⟩, sv b.2)]) [] [0, 1, 2, 3, 4, 5, 6, 7, 8, 9, 10, 11] [] [] (by kernel_rfl) (by kernel_rfl) ?tJ ?uJ
          case tJ => exact ⟨a0, a1, c0, c1, trivial⟩
          case uJ =>
          clear a0 a1 c0 c1
          simp only [opsAt, List.filterMap_cons, List.filterMap_nil, List.getElem?_toArray, List.getElem?_cons_succ, List.getElem?_cons_zero]
          refine wpFloat_nil ?_
          refine wpLoad_step ?vJt0 rfl (fun w' hS => ?yJt0) ?kJt0
          case yJt0 =>
            obtain ⟨g0, g1, g2, g3, _⟩ := hS
            go_simp
            try rfl
          case kJt0 =>
          go_simp
          refine wpLoad_step ?vJt1 rfl (fun w' hS => ?yJt1) ?kJt1
          case yJt1 =>
            obtain ⟨g0, g1, g2, g3, _⟩ := hS
            go_simp
            try rfl
          case kJt1 =>
          go_simp
          refine wpLoad_step ?vJt2 rfl (fun w' hS => ?yJt2) ?kJt2
          case yJt2 =>
            obtain ⟨g0, g1, g2, g3, _⟩ := hS
            go_simp
            try rfl
          case kJt2 =>
          go_simp
          refine wpLoad_step ?vJt3 rfl (fun w' hS => ?yJt3) ?kJt3
          case yJt3 =>
            obtain ⟨g0, g1, g2, g3, _⟩ := hS
            go_simp
            try rfl
          case kJt3 =>
          go_simp
          refine wpLoad_step ?vJt4 rfl (fun w' hS => ?yJt4) ?kJt4
          case yJt4 =>
            obtain ⟨g0, g1, g2, g3, _⟩ := hS
            go_simp
            try rfl
          case kJt4 =>
          go_simp
          refine wpLoad_step ?vJt5 rfl (fun w' hS => ?yJt5) ?kJt5
          case yJt5 =>
            obtain ⟨g0, g1, g2, g3, _⟩ := hS
            go_simp
            try rfl
          case kJt5 =>
          go_simp
          refine wpLoad_step ?vJt6 rfl (fun w' hS => ?yJt6) ?kJt6
          case yJt6 =>
            obtain ⟨g0, g1, g2, g3, _⟩ := hS
            go_simp
            try rfl
          case kJt6 =>
          go_simp
          refine wpLoad_step ?vJt7 rfl (fun w' hS => ?yJt7) ?kJt7
          case yJt7 =>
            obtain ⟨g0, g1, g2, g3, _⟩ := hS
            go_simp
            try rfl
          case kJt7 =>
          go_simp
          refine wpLoad_step ?vJt8 rfl (fun w' hS => ?yJt8) ?kJt8
          case yJt8 =>
            obtain ⟨g0, g1, g2, g3, _⟩ := hS
            go_simp
            try rfl
          case kJt8 =>
          go_simp
          refine wpLoad_step ?vJt9 rfl (fun w' hS => ?yJt9) ?kJt9
          case yJt9 =>
            obtain ⟨g0, g1, g2, g3, _⟩ := hS
            go_simp
            try rfl
          case kJt9 =>
          go_simp
          refine wpLoad_step (.bool (decide (x = b))) rfl (fun w' hS => ?zJ) ?xJ
          case zJ =>
            go_simp
            simp only [bs_toList]
            by_cases h1 : x.1 = b.1 <;> by_cases h2 : x.2 = b.2 <;> simp [h1, h2, Prod.ext_iff]
          case xJ =>
          by_cases he : x = b
          · have hq : decide (x = b) = true := decide_eq_true he
            have HBM : Hid (b ∈ l) := Lib.hid (by rw [← he]; exact List.mem_of_getElem? HX.out)
            rw [hq]
            clear hq he
            refine wpLoad_step ?vJv0 rfl (fun w' hS => ?yJv0) ?kJv0
            case yJv0 =>
              obtain ⟨g0, g1, g2, g3, _⟩ := hS
              go_simp
              try rfl
            case kJv0 =>
            go_simp
            refine wpLoad_nil ?_
            refine wpKeep_nil ?_
            go_wp2
            refine NoPanic.normal ?_
            go_wp2_with fail
            go_ret
            refine ⟨some ad, c, l, by rw [← HN.out]; rfl, by rw [← HN.out]; exact hc, by omega, HASC.out, fun x => ⟨.inr, fun h => h.elim (fun e => e ▸ HBM.out) id⟩, ?_, HBW.out.drew⟩
            have := HR.out.keep ((kept_below HBW.out).sub HSLT.out)
            rw [HAD.out] at this
            exact Row.more this fun y hy => .inl hy
          · have hq : decide (x = b) = false := decide_eq_false he
            have HNE : Hid (∀ x, l[k]? = some x → x ≠ b) := Lib.hid fun x' hx' => by rw [HX.out] at hx'; cases hx'; exact he
            rw [hq]
            clear hq he
            refine wpLoad_step ?vJw0 rfl (fun w' hS => ?yJw0) ?kJw0
            case yJw0 =>
              obtain ⟨g0, g1, g2, g3, _⟩ := hS
              go_simp
              try rfl
            case kJw0 =>
            go_simp
            refine wpLoad_nil ?_
            refine wpKeep_nil ?_
            go_wp2
            refine NoPanic.normal ?_
            go_wp2_with fail
            rw [← HAD.out]
            have HB2 := Lib.hid HB.out.drew
            have HBW2 := Lib.hid HBW.out.drew
            clear HB HBW
            obtain ⟨HB, HBW⟩ := And.intro HB2 HBW2
            clear HB2 HBW2
            generalize wr.drew = wr at *
            have hFR := HR.out.front (k * 2)
            rw [flt_take bdC_len] at hFR
            have hBK := back_row bdC_len HR.out (ys := l) HN.out.symm hc k
            obtain ⟨SB, hSB⟩ : ∃ SB, SB = backOf A 2 c k := ⟨_, rfl⟩
            rw [← hSB] at hBK
            have HSB := Lib.hid hSB
            have hkept : Kept S w wr := (kept_below HBW.out).sub HSLT.out
            have HFR := Lib.hid (hFR.keep hkept)
            have HBK := Lib.hid (hBK.keep hkept)
            have hbx := HB.out.block _ HX0.out.1
            have hbx2 := hbx.trans HX0.out.2
            have c0 : wr.cell? ⟨w.heap.size, 0, none⟩ = some (sv b.1) := (Lib.cell_of_heap hbx2 _).trans rfl
            have c1 : wr.cell? ⟨w.heap.size, 1, none⟩ = some (sv b.2) := (Lib.cell_of_heap hbx2 _).trans rfl
            have hkc : (0 : Int) ≤ (k : Int) ∧ (k : Int) ≤ (c : Int) ∧ (k : Int) ≤ (n : Int) := ⟨by omega, by omega, by omega⟩
            have hwsz := HBW.out.size
            obtain ⟨i0, hi, hz0, hz1, hz2⟩ := info_parts infoBind
            clear hFR hBK hSB hkept hbx hbx2
            refine wp_region_fexp (fun u => Below wr.heap.size wr u ∧ AtCells [(⟨w.heap.size, 0, none⟩, sv b.1), (⟨w.heap.size, 1, none⟩, sv b.2)] u) (fun u v => Below u.heap.size u v) (bdPhi w.heap.size k (flt bdC (l.take k)) b) [0, 1, 2, 7, 8, 9] [] [(3, 58), (4, 59), (5, 60)] [6, 10, 11] (by kernel_rfl) (by kernel_rfl) (by kernel_rfl) (fun _ => Below.refl _ _) (fun a b c h h' => h.trans (h'.mono h.size)) bdPhi_go ?sJw ?hJw
            case sJw => exact ⟨(Below.refl _ wr).drew, c0, c1, trivial⟩
            case hJw =>
            have HC : Hid (∀ u, Below wr.heap.size wr u → AtCells [(⟨w.heap.size, 0, none⟩, sv b.1), (⟨w.heap.size, 1, none⟩, sv b.2)] u) := Lib.hid fun u hu => ⟨(hu.cell (block_lt_of_cell c0)).trans c0, (hu.cell (block_lt_of_cell c1)).trans c1, trivial⟩
            clear c0 c1
            simp only [opsAt, List.filterMap_cons, List.filterMap_nil, List.getElem?_toArray, List.getElem?_cons_succ, List.getElem?_cons_zero]
            refine wpFloat_step ?vJwa0 rfl (fun w' => ?yJwa0) ?kJwa0
            case yJwa0 =>
              go_simp
              try rfl
            case kJwa0 =>
            go_simp
            refine wpFloat_step ?vJwa1 rfl (fun w' => ?yJwa1) ?kJwa1
            case yJwa1 =>
              go_simp
              try rfl
            case kJwa1 =>
            go_simp
            refine wpFloat_step (.slice A k c) rfl (fun w' => ?yJw2) ?kJw2
            case yJw2 =>
              go_simp
              try simp only [← front_of A k c 2]
              try rfl
            case kJw2 =>
            go_simp
            refine wpFloat_step ?vJwb7 rfl (fun w' => ?yJwb7) ?kJwb7
            case yJwb7 =>
              go_simp
              try rfl
            case kJwb7 =>
            go_simp
            refine wpFloat_step ?vJwb8 rfl (fun w' => ?yJwb8) ?kJwb8
            case yJwb8 =>
              go_simp
              try rfl
            case kJwb8 =>
            go_simp
            refine wpFloat_step (.slice SB (n - k) (c - k)) rfl (fun w' => ?yJw9) ?kJw9
            case yJw9 =>
              go_simp
              rw [HSB.out]
              try rfl
            case kJw9 =>
            go_simp
            refine wpFloat_nil ?_
            refine ⟨?szJw, ?stJw, (fun i hi => by cases hi), ?finJw⟩
            case szJw =>
              intro x hx
              simp only [List.mem_cons, List.not_mem_nil, or_false] at hx
              rcases hx with rfl | rfl | rfl <;> simp
            case stJw =>
              intro x hx _
              simp only [List.mem_cons, List.not_mem_nil, or_false] at hx
              rcases hx with rfl | rfl | rfl
              · intro a' w7 K hI hK
                have e57 := hI.old 57 _ rfl (by decide)
                have hS := hI.hold
                have hK : ∀ v w', Below w7.heap.size w7 w' → _ → (∃ (A : Option Addr) (c : Nat), v = .slice A k c ∧ w'.ownsRow w.heap.size 42 2 (.slice A k c) k (flt bdC (l.take k))) → K (a'.put (some 58) v) w' := hK
                have hfr := (HFR.out.keep ((kept_below hS.1).sub fun y hy => by have := HSLT.out y hy; unfold Lt at this ⊢; omega)).more (S' := S) fun _ h => h
                have hsz7 := hS.1.size
                clear hI
                refine wpOp_go rfl rfl ?_
                refine wp_append_row _ _ 33 rfl w.heap.size 42 i0 _ 2 32 Try.underlying33 hi hz0 hz1 hz2 rfl (by omega) (.slice none 0 0) 0 [] rfl (World.ownsRow_nil _ _ _ _) S A k c (flt bdC (l.take k)) (eval_tmp e57) (by rw [flt_length bdC_len, List.length_take, ← HN.out]; congr 1; omega) hfr (flt_one' bdC_one _) (by unfold maxLen; omega) (by omega) (by omega) ?_
                intro v' w8 hown hg _
                rw [Nat.zero_add, List.nil_append] at hown
                have hb8 : Below w7.heap.size w7 w8 := (Below.refl _ w7).grown hg (Nat.le_refl _) (fun r hr => by cases hr)
                obtain ⟨A8, c8, rfl, _⟩ := own_slice hown
                exact hK _ _ hb8 ⟨hS.1.trans (hb8.mono hsz7), HC.out _ (hS.1.trans (hb8.mono hsz7))⟩ ⟨A8, c8, rfl, hown⟩
              · intro a' w7 K hI hK
                have e3 := hI.old 3 _ rfl (by decide)
                have hS := hI.hold
                have hK : ∀ v w', Below w7.heap.size w7 w' → _ → (v = bdV b) → K (a'.put (some 59) v) w' := hK
                obtain ⟨g0, g1, _⟩ := hS.2
                clear hI
                refine wpOp_go rfl rfl ?_
                go_simp
                exact hK _ _ (Below.refl _ _) hS rfl
              · intro a' w7 K hI hK
                obtain ⟨v1, e59, hv⟩ := hI.new (4, 59) (by decide) (by kernel_rfl)
                obtain rfl : v1 = bdV b := hv
                have hS := hI.hold
                have hK : ∀ v w', Below w7.heap.size w7 w' → _ → (∃ g, v = .slice (some ⟨g, 0, none⟩) 1 1 ∧ w.heap.size ≤ g ∧ w'.heap[g]? = some (.cells #[sv b.1, sv b.2] 42 (0, 0))) → K (a'.put (some 60) v) w' := hK
                have hb7 : Below w7.heap.size w7 (w7.alloc (.cells #[sv b.1, sv b.2] 42)) := (Below.refl _ _).alloc (Nat.le_refl _) _
                have ha7 := alloc1 w7 (.cells #[sv b.1, sv b.2] 42)
                have hsz7 := hS.1.size
                clear hI
                refine wpOp_go rfl rfl ?_
                go_simp
                exact hK _ _ hb7 ⟨hS.1.trans (hb7.mono hsz7), HC.out _ (hS.1.trans (hb7.mono hsz7))⟩ ⟨_, rfl, by omega, ha7⟩
            case finJw =>
              intro vs w6 _ hS6 hΦ
              have q3 : ∃ (A : Option Addr) (c : Nat), vs 3 = .slice A k c ∧ w6.ownsRow w.heap.size 42 2 (.slice A k c) k (flt bdC (l.take k)) := hΦ (3, 58) (by decide)
              have q4 : vs 4 = bdV b := hΦ (4, 59) (by decide)
              have q5 : ∃ g, vs 5 = .slice (some ⟨g, 0, none⟩) 1 1 ∧ w.heap.size ≤ g ∧ w6.heap[g]? = some (.cells #[sv b.1, sv b.2] 42 (0, 0)) := hΦ (5, 60) (by decide)
              obtain ⟨A3, c3, e3, hown3⟩ := q3
              obtain ⟨g5, e5, hg5, hblk⟩ := q5
              simp only [putD, e3, q4, e5]
              clear e3 q4 e5 hΦ vs
              have hb6 := hS6.1
              have hs6 := hb6.size
              have HBK6 := Lib.hid (HBK.out.keep ((kept_below hb6).sub fun y hy => by have := HSLT.out y hy; unfold Lt at this ⊢; omega))
              have HB6 := Lib.hid hb6
              have hrow5 : Row w6 (fun y => y = g5) (some ⟨g5, 0, none⟩) (bdC b) := row_heap hblk rfl rfl
              clear hS6 hb6 HC HFR HBK
              simp only [opsAt, List.filterMap_cons, List.filterMap_nil, List.getElem?_toArray, List.getElem?_cons_succ, List.getElem?_cons_zero]
              refine (wpList_append_row rfl _ _ 33 rfl w.heap.size 42 i0 _ 2 32 Try.underlying33 hi hz0 hz1 hz2 rfl (by omega) (.slice A3 k c3) k (flt bdC (l.take k)) rfl hown3 (fun y => y = g5) (some ⟨g5, 0, none⟩) 1 1 (bdC b) rfl rfl hrow5 (bdC_one b) (by unfold maxLen; omega) (by omega) (by omega) ?_)
              intro v7 w7 hown7 hg7 _
              obtain ⟨A7, c7, rfl, _⟩ := own_slice hown7
              have hlt3 := hown3.lt
              have hk7 : Kp (fun y => w.heap.size ≤ y) w6 w7 := (Kp.refl _ _).grown hg7 (fun r hr _ => (hlt3 r hr).1)
              have hs7 := hk7.size
              have hrowB := HBK6.out.keep (hk7.kept fun y hy => ⟨by have := HSLT.out y hy; unfold Lt at this; omega, by have := HSLT.out y hy; unfold Lt at this; omega⟩)
              have HK7 := Lib.hid hk7
              have hlt7 := hown7.lt
              refine (wpList_append_row rfl _ _ 33 rfl w.heap.size 42 i0 _ 2 32 Try.underlying33 hi hz0 hz1 hz2 rfl (by omega) (.slice A7 (k + 1) c7) (k + 1) (flt bdC (l.take k) ++ bdC b) rfl hown7 S SB (n - k) (c - k) (flt bdC (l.drop k)) rfl (by rw [flt_length bdC_len, List.length_drop, ← HN.out]) hrowB (flt_one' bdC_one _) (by unfold maxLen; omega) (by omega) (by omega) ?_)
              intro v8 w8 hown8 hg8 _
              have hk8 : Kp (fun y => w.heap.size ≤ y) w7 w8 := (Kp.refl _ _).grown hg8 (fun r hr _ => (hlt7 r hr).1)
              obtain ⟨LN, hLN⟩ : ∃ LN, LN = l.take k ++ b :: l.drop k := ⟨_, rfl⟩
              have hLNl : LN.length = n + 1 := by
                rw [hLN, List.length_append, List.length_cons, List.length_take, List.length_drop, ← HN.out]
                omega
              rw [show flt bdC (l.take k) ++ bdC b ++ flt bdC (l.drop k) = flt bdC LN by rw [hLN, flt_append, flt_cons, List.append_assoc], show k + 1 + (n - k) = n + 1 by omega] at hown8
              obtain ⟨A8, c8, rfl, _⟩ := own_slice hown8
              have hk68 := hk7.trans hk8 (fun _ _ e => e)
              have hb8 : Below w.heap.size w w8 := kp_below (HBW.out.trans (HB6.out.mono hwsz)) hk68 fun _ e => e
              have HRES : Hid (BindRes S l b w (.returned (.slice A8 (n + 1) c8)) w8) := Lib.hid ⟨A8, c8, LN, by rw [hLNl], by rw [hLNl]; exact (own_le hown8).1, by rw [hLNl, HN.out]; exact Nat.le_refl _, by rw [hLN]; exact HASC.out.put HPL.out (AscK.at_ HNL.out HNE.out), fun x => by rw [hLN]; exact mem_put k x, Row.ofOwn hown8 fun g _ h3 h4 => .inr ⟨h3, h4⟩, hb8⟩
              clear hown3 hown7 hown8 hg7 hg8 hlt3 hlt7 hk7 hk8 hk68 hb8 hrowB hrow5 hblk hLN hLNl HK7 HBK6 HB6 hi hz0 hz1 hz2
              go_wp2
              refine NoPanic.normal ?_
              go_wp2
              go_ret
              exact HRES.out
    · have HNL : Hid (∀ x, l[k]? = some x → ltKey x b = false) := Lib.hid fun y hy => by have := (List.getElem?_eq_some_iff.1 hy).1; have := HN.out; omega
      go_wp2_with fail
      refine wp_region_held' (fun _ => True) [] [0, 1, 2, 3, 4, 5, 6, 7, 8, 9, 10, 11, 12, 13, 14, 15, 16, 17, 18, 19, 20, 21, 22, 23, 24, 25, 26, 27, 28, 29, 30, 31, 32, 33] [] [] (by kernel_rfl) (by kernel_rfl) ?s1 ?h1
      case s1 => trivial
      case h1 =>
      simp only [opsAt, List.filterMap_cons, List.filterMap_nil, List.getElem?_toArray, List.getElem?_cons_succ, List.getElem?_cons_zero]
      refine wpFloat_nil ?_
      refine wpLoad_step ?vj0 rfl (fun w' hS => ?yj0) ?kj0
      case yj0 =>
        obtain _ := hS
        go_simp
        try rfl
      case kj0 =>
      go_simp
      refine wpLoad_step ?vj1 rfl (fun w' hS => ?yj1) ?kj1
      case yj1 =>
        obtain _ := hS
        go_simp
        try rfl
      case kj1 =>
      go_simp
      refine wpLoad_step ?vj2 rfl (fun w' hS => ?yj2) ?kj2
      case yj2 =>
        obtain _ := hS
        go_simp
        try rfl
      case kj2 =>
      go_simp
      refine wpLoad_step ?vj3 rfl (fun w' hS => ?yj3) ?kj3
      case yj3 =>
        obtain _ := hS
        go_simp
        try rfl
      case kj3 =>
      go_simp
      refine wpLoad_step ?vj4 rfl (fun w' hS => ?yj4) ?kj4
      case yj4 =>
        obtain _ := hS
        go_simp
        try rfl
      case kj4 =>
      go_simp
      refine wpLoad_skip rfl ?_
      go_simp
      refine wpLoad_skip rfl ?_
      go_simp
      refine wpLoad_skip rfl ?_
      go_simp
      refine wpLoad_skip rfl ?_
      go_simp
      refine wpLoad_skip rfl ?_
      go_simp
      refine wpLoad_skip rfl ?_
      go_simp
      refine wpLoad_skip rfl ?_
      go_simp
      refine wpLoad_skip rfl ?_
      go_simp
      refine wpLoad_skip rfl ?_
      go_simp
      refine wpLoad_skip rfl ?_
      go_simp
      refine wpLoad_skip rfl ?_
      go_simp
      refine wpLoad_skip rfl ?_
      go_simp
      refine wpLoad_skip rfl ?_
      go_simp
      refine wpLoad_skip rfl ?_
      go_simp
      refine wpLoad_skip rfl ?_
      go_simp
      refine wpLoad_skip rfl ?_
      go_simp
      refine wpLoad_skip rfl ?_
      go_simp
      refine wpLoad_skip rfl ?_
      go_simp
      refine wpLoad_skip rfl ?_
      go_simp
      refine wpLoad_skip rfl ?_
      go_simp
      refine wpLoad_skip rfl ?_
      go_simp
      refine wpLoad_skip rfl ?_
      go_simp
      refine wpLoad_skip rfl ?_
      go_simp
      refine wpLoad_skip rfl ?_
      go_simp
      refine wpLoad_skip rfl ?_
      go_simp
      refine wpLoad_skip rfl ?_
      go_simp
      refine wpLoad_skip rfl ?_
      go_simp
      refine wpLoad_skip rfl ?_
      go_simp
      refine wpLoad_step ?vk0 rfl (fun w' hS => ?yk0) ?kk0
      case yk0 =>
        obtain _ := hS
        go_simp
        try rfl
      case kk0 =>
      go_simp
      refine wpLoad_nil ?_
      refine wpKeep_nil ?_
      go_wp2
      refine NoPanic.normal ?_
      go_wp2_with fail
      have HB2 := Lib.hid HB.out.drew
      have HBW2 := Lib.hid HBW.out.drew
      clear HB HBW
      obtain ⟨HB, HBW⟩ := And.intro HB2 HBW2
      clear HB2 HBW2
      generalize wr.drew = wr at *
      have HNE : Hid (∀ x, l[k]? = some x → x ≠ b) := Lib.hid fun x' hx' => by have := (List.getElem?_eq_some_iff.1 hx').1; have := HN.out; omega
      refine wp_region_held' (fun _ => True) [] [0, 1, 2, 3, 4, 5, 6, 7, 8, 9, 10, 11] [] [] (by kernel_rfl) (by kernel_rfl) ?pK ?qK
      case pK => trivial
      case qK =>
      simp only [opsAt, List.filterMap_cons, List.filterMap_nil, List.getElem?_toArray, List.getElem?_cons_succ, List.getElem?_cons_zero]
      refine wpFloat_nil ?_
      refine wpLoad_step ?vKx0 rfl (fun w' hS => ?yKx0) ?kKx0
      case yKx0 =>
        obtain _ := hS
        go_simp
        try rfl
      case kKx0 =>
      go_simp
      refine wpLoad_step ?vKx1 rfl (fun w' hS => ?yKx1) ?kKx1
      case yKx1 =>
        obtain _ := hS
        go_simp
        try rfl
      case kKx1 =>
      go_simp
      refine wpLoad_step ?vKx2 rfl (fun w' hS => ?yKx2) ?kKx2
      case yKx2 =>
        obtain _ := hS
        go_simp
        try rfl
      case kKx2 =>
      go_simp
      refine wpLoad_step ?vKx3 rfl (fun w' hS => ?yKx3) ?kKx3
      case yKx3 =>
        obtain _ := hS
        go_simp
        try rfl
      case kKx3 =>
      go_simp
      refine wpLoad_step ?vKx4 rfl (fun w' hS => ?yKx4) ?kKx4
      case yKx4 =>
        obtain _ := hS
        go_simp
        try rfl
      case kKx4 =>
      go_simp
      refine wpLoad_skip rfl ?_
      go_simp
      refine wpLoad_skip rfl ?_
      go_simp
      refine wpLoad_skip rfl ?_
      go_simp
      refine wpLoad_skip rfl ?_
      go_simp
      refine wpLoad_skip rfl ?_
      go_simp
      refine wpLoad_skip rfl ?_
      go_simp
      refine wpLoad_step ?vKy0 rfl (fun w' hS => ?yKy0) ?kKy0
      case yKy0 =>
        obtain _ := hS
        go_simp
        try rfl
      case kKy0 =>
      go_simp
      refine wpLoad_nil ?_
      refine wpKeep_nil ?_
      go_wp2
      refine NoPanic.normal ?_
      go_wp2_with fail
      have HB2 := Lib.hid HB.out.drew
      have HBW2 := Lib.hid HBW.out.drew
      clear HB HBW
      obtain ⟨HB, HBW⟩ := And.intro HB2 HBW2
      clear HB2 HBW2
      generalize wr.drew = wr at *
      have hFR := HR.out.front (k * 2)
      rw [flt_take bdC_len] at hFR
      have hBK := back_row bdC_len HR.out (ys := l) HN.out.symm hc k
      obtain ⟨SB, hSB⟩ : ∃ SB, SB = backOf A 2 c k := ⟨_, rfl⟩
      rw [← hSB] at hBK
      have HSB := Lib.hid hSB
      have hkept : Kept S w wr := (kept_below HBW.out).sub HSLT.out
      have HFR := Lib.hid (hFR.keep hkept)
      have HBK := Lib.hid (hBK.keep hkept)
      have hbx := HB.out.block _ HX0.out.1
      have hbx2 := hbx.trans HX0.out.2
      have c0 : wr.cell? ⟨w.heap.size, 0, none⟩ = some (sv b.1) := (Lib.cell_of_heap hbx2 _).trans rfl
      have c1 : wr.cell? ⟨w.heap.size, 1, none⟩ = some (sv b.2) := (Lib.cell_of_heap hbx2 _).trans rfl
      have hkc : (0 : Int) ≤ (k : Int) ∧ (k : Int) ≤ (c : Int) ∧ (k : Int) ≤ (n : Int) := ⟨by omega, by omega, by omega⟩
      have hwsz := HBW.out.size
      obtain ⟨i0, hi, hz0, hz1, hz2⟩ := info_parts infoBind
      clear hFR hBK hSB hkept hbx hbx2
      refine wp_region_fexp (fun u => Below wr.heap.size wr u ∧ AtCells [(⟨w.heap.size, 0, none⟩, sv b.1), (⟨w.heap.size, 1, none⟩, sv b.2)] u) (fun u v => Below u.heap.size u v) (bdPhi w.heap.size k (flt bdC (l.take k)) b) [0, 1, 2, 7, 8, 9] [] [(3, 58), (4, 59), (5, 60)] [6, 10, 11] (by kernel_rfl) (by kernel_rfl) (by kernel_rfl) (fun _ => Below.refl _ _) (fun a b c h h' => h.trans (h'.mono h.size)) bdPhi_go ?sKx ?hKx
      case sKx => exact ⟨(Below.refl _ wr).drew, c0, c1, trivial⟩
      case hKx =>
      have HC : Hid (∀ u, Below wr.heap.size wr u → AtCells [(⟨w.heap.size, 0, none⟩, sv b.1), (⟨w.heap.size, 1, none⟩, sv b.2)] u) := Lib.hid fun u hu => ⟨(hu.cell (block_lt_of_cell c0)).trans c0, (hu.cell (block_lt_of_cell c1)).trans c1, trivial⟩
      clear c0 c1
      simp only [opsAt, List.filterMap_cons, List.filterMap_nil, List.getElem?_toArray, List.getElem?_cons_succ, List.getElem?_cons_zero]
      refine wpFloat_step ?vKxa0 rfl (fun w' => ?yKxa0) ?kKxa0
      case yKxa0 =>
        go_simp
        try rfl
      case kKxa0 =>
      go_simp
      refine wpFloat_step ?vKxa1 rfl (fun w' => ?yKxa1) ?kKxa1
      case yKxa1 =>
        go_simp
        try rfl
      case kKxa1 =>
      go_simp
      refine wpFloat_step (.slice A k c) rfl (fun w' => ?yKx2) ?kKx2
      case yKx2 =>
        go_simp
        try simp only [← front_of A k c 2]
        try rfl
      case kKx2 =>
      go_simp
      refine wpFloat_step ?vKxb7 rfl (fun w' => ?yKxb7) ?kKxb7
      case yKxb7 =>
        go_simp
        try rfl
      case kKxb7 =>
      go_simp
      refine wpFloat_step ?vKxb8 rfl (fun w' => ?yKxb8) ?kKxb8
      case yKxb8 =>
        go_simp
        try rfl
      case kKxb8 =>
      go_simp
      refine wpFloat_step (.slice SB (n - k) (c - k)) rfl (fun w' => ?yKx9) ?kKx9
      case yKx9 =>
        go_simp
        rw [HSB.out]
        try rfl
      case kKx9 =>
      go_simp
      refine wpFloat_nil ?_
      refine ⟨?szKx, ?stKx, (fun i hi => by cases hi), ?finKx⟩
      case szKx =>
        intro x hx
        simp only [List.mem_cons, List.not_mem_nil, or_false] at hx
        rcases hx with rfl | rfl | rfl <;> simp
      case stKx =>
        intro x hx _
        simp only [List.mem_cons, List.not_mem_nil, or_false] at hx
        rcases hx with rfl | rfl | rfl
        · intro a' w7 K hI hK
          have e57 := hI.old 57 _ rfl (by decide)
          have hS := hI.hold
          have hK : ∀ v w', Below w7.heap.size w7 w' → _ → (∃ (A : Option Addr) (c : Nat), v = .slice A k c ∧ w'.ownsRow w.heap.size 42 2 (.slice A k c) k (flt bdC (l.take k))) → K (a'.put (some 58) v) w' := hK
          have hfr := (HFR.out.keep ((kept_below hS.1).sub fun y hy => by have := HSLT.out y hy; unfold Lt at this ⊢; omega)).more (S' := S) fun _ h => h
          have hsz7 := hS.1.size
          clear hI
          refine wpOp_go rfl rfl ?_
          refine wp_append_row _ _ 33 rfl w.heap.size 42 i0 _ 2 32 Try.underlying33 hi hz0 hz1 hz2 rfl (by omega) (.slice none 0 0) 0 [] rfl (World.ownsRow_nil _ _ _ _) S A k c (flt bdC (l.take k)) (eval_tmp e57) (by rw [flt_length bdC_len, List.length_take, ← HN.out]; congr 1; omega) hfr (flt_one' bdC_one _) (by unfold maxLen; omega) (by omega) (by omega) ?_
          intro v' w8 hown hg _
          rw [Nat.zero_add, List.nil_append] at hown
          have hb8 : Below w7.heap.size w7 w8 := (Below.refl _ w7).grown hg (Nat.le_refl _) (fun r hr => by cases hr)
          obtain ⟨A8, c8, rfl, _⟩ := own_slice hown
          exact hK _ _ hb8 ⟨hS.1.trans (hb8.mono hsz7), HC.out _ (hS.1.trans (hb8.mono hsz7))⟩ ⟨A8, c8, rfl, hown⟩
        · intro a' w7 K hI hK
          have e3 := hI.old 3 _ rfl (by decide)
          have hS := hI.hold
          have hK : ∀ v w', Below w7.heap.size w7 w' → _ → (v = bdV b) → K (a'.put (some 59) v) w' := hK
          obtain ⟨g0, g1, _⟩ := hS.2
          clear hI
          refine wpOp_go rfl rfl ?_
          go_simp
          exact hK _ _ (Below.refl _ _) hS rfl
        · intro a' w7 K hI hK
          obtain ⟨v1, e59, hv⟩ := hI.new (4, 59) (by decide) (by kernel_rfl)
          obtain rfl : v1 = bdV b := hv
          have hS := hI.hold
          have hK : ∀ v w', Below w7.heap.size w7 w' → _ → (∃ g, v = .slice (some ⟨g, 0, none⟩) 1 1 ∧ w.heap.size ≤ g ∧ w'.heap[g]? = some (.cells #[sv b.1, sv b.2] 42 (0, 0))) → K (a'.put (some 60) v) w' := hK
          have hb7 : Below w7.heap.size w7 (w7.alloc (.cells #[sv b.1, sv b.2] 42)) := (Below.refl _ _).alloc (Nat.le_refl _) _
          have ha7 := alloc1 w7 (.cells #[sv b.1, sv b.2] 42)
          have hsz7 := hS.1.size
          clear hI
          refine wpOp_go rfl rfl ?_
          go_simp
          exact hK _ _ hb7 ⟨hS.1.trans (hb7.mono hsz7), HC.out _ (hS.1.trans (hb7.mono hsz7))⟩ ⟨_, rfl, by omega, ha7⟩
      case finKx =>
        intro vs w6 _ hS6 hΦ
        have q3 : ∃ (A : Option Addr) (c : Nat), vs 3 = .slice A k c ∧ w6.ownsRow w.heap.size 42 2 (.slice A k c) k (flt bdC (l.take k)) := hΦ (3, 58) (by decide)
        have q4 : vs 4 = bdV b := hΦ (4, 59) (by decide)
        have q5 : ∃ g, vs 5 = .slice (some ⟨g, 0, none⟩) 1 1 ∧ w.heap.size ≤ g ∧ w6.heap[g]? = some (.cells #[sv b.1, sv b.2] 42 (0, 0)) := hΦ (5, 60) (by decide)
        obtain ⟨A3, c3, e3, hown3⟩ := q3
        obtain ⟨g5, e5, hg5, hblk⟩ := q5
        simp only [putD, e3, q4, e5]
        clear e3 q4 e5 hΦ vs
        have hb6 := hS6.1
        have hs6 := hb6.size
        have HBK6 := Lib.hid (HBK.out.keep ((kept_below hb6).sub fun y hy => by have := HSLT.out y hy; unfold Lt at this ⊢; omega))
        have HB6 := Lib.hid hb6
        have hrow5 : Row w6 (fun y => y = g5) (some ⟨g5, 0, none⟩) (bdC b) := row_heap hblk rfl rfl
        clear hS6 hb6 HC HFR HBK
        simp only [opsAt, List.filterMap_cons, List.filterMap_nil, List.getElem?_toArray, List.getElem?_cons_succ, List.getElem?_cons_zero]
        refine (wpList_append_row rfl _ _ 33 rfl w.heap.size 42 i0 _ 2 32 Try.underlying33 hi hz0 hz1 hz2 rfl (by omega) (.slice A3 k c3) k (flt bdC (l.take k)) rfl hown3 (fun y => y = g5) (some ⟨g5, 0, none⟩) 1 1 (bdC b) rfl rfl hrow5 (bdC_one b) (by unfold maxLen; omega) (by omega) (by omega) ?_)
        intro v7 w7 hown7 hg7 _
        obtain ⟨A7, c7, rfl, _⟩ := own_slice hown7
        have hlt3 := hown3.lt
        have hk7 : Kp (fun y => w.heap.size ≤ y) w6 w7 := (Kp.refl _ _).grown hg7 (fun r hr _ => (hlt3 r hr).1)
        have hs7 := hk7.size
        have hrowB := HBK6.out.keep (hk7.kept fun y hy => ⟨by have := HSLT.out y hy; unfold Lt at this; omega, by have := HSLT.out y hy; unfold Lt at this; omega⟩)
        have HK7 := Lib.hid hk7
        have hlt7 := hown7.lt
        refine (wpList_append_row rfl _ _ 33 rfl w.heap.size 42 i0 _ 2 32 Try.underlying33 hi hz0 hz1 hz2 rfl (by omega) (.slice A7 (k + 1) c7) (k + 1) (flt bdC (l.take k) ++ bdC b) rfl hown7 S SB (n - k) (c - k) (flt bdC (l.drop k)) rfl (by rw [flt_length bdC_len, List.length_drop, ← HN.out]) hrowB (flt_one' bdC_one _) (by unfold maxLen; omega) (by omega) (by omega) ?_)
        intro v8 w8 hown8 hg8 _
        have hk8 : Kp (fun y => w.heap.size ≤ y) w7 w8 := (Kp.refl _ _).grown hg8 (fun r hr _ => (hlt7 r hr).1)
        obtain ⟨LN, hLN⟩ : ∃ LN, LN = l.take k ++ b :: l.drop k := ⟨_, rfl⟩
        have hLNl : LN.length = n + 1 := by
          rw [hLN, List.length_append, List.length_cons, List.length_take, List.length_drop, ← HN.out]
          omega
        rw [show flt bdC (l.take k) ++ bdC b ++ flt bdC (l.drop k) = flt bdC LN by rw [hLN, flt_append, flt_cons, List.append_assoc], show k + 1 + (n - k) = n + 1 by omega] at hown8
        obtain ⟨A8, c8, rfl, _⟩ := own_slice hown8
        have hk68 := hk7.trans hk8 (fun _ _ e => e)
        have hb8 : Below w.heap.size w w8 := kp_below (HBW.out.trans (HB6.out.mono hwsz)) hk68 fun _ e => e
        have HRES : Hid (BindRes S l b w (.returned (.slice A8 (n + 1) c8)) w8) := Lib.hid ⟨A8, c8, LN, by rw [hLNl], by rw [hLNl]; exact (own_le hown8).1, by rw [hLNl, HN.out]; exact Nat.le_refl _, by rw [hLN]; exact HASC.out.put HPL.out (AscK.at_ HNL.out HNE.out), fun x => by rw [hLN]; exact mem_put k x, Row.ofOwn hown8 fun g _ h3 h4 => .inr ⟨h3, h4⟩, hb8⟩
        clear hown3 hown7 hown8 hg7 hg8 hlt3 hlt7 hk7 hk8 hk68 hb8 hrowB hrow5 hblk hLN hLNl HK7 HBK6 HB6 hi hz0 hz1 hz2
        go_wp2
        refine NoPanic.normal ?_
        go_wp2
        go_ret
        exact HRES.out
end Go.Proofs.Ytcliegpofhjpcaa
