/-
  The walk of ref40.Same.
  Conditions: the differences lie in memory; there are at most 10^6 in each list.
-/
import Derived.Test.YtlgdminpkkhejaaDtK
namespace Go.Proofs.Ytlgdminpkkhejaa
open Go.RowKit

theorem Dl.ext' {d f : Dl} (h1 : d.gone = f.gone) (h2 : d.come = f.come) (h3 : d.moved = f.moved) : d = f := by
  cases d
  cases f
  simp only at h1 h2 h3
  rw [h1, h2, h3]
def VwC (ad be : Addr) (y x : Mv) : List (Addr × Value) := [(ad, .int .i64 y.1), (⟨ad.block, ad.off + 1, none⟩, .int .i64 y.2.1), (⟨ad.block, ad.off + 2, none⟩, .int .i64 y.2.2.1), (⟨ad.block, ad.off + 3, none⟩, .int .i64 y.2.2.2.1), (⟨ad.block, ad.off + 4, none⟩, sv y.2.2.2.2), (be, .int .i64 x.1), (⟨be.block, be.off + 1, none⟩, .int .i64 x.2.1), (⟨be.block, be.off + 2, none⟩, .int .i64 x.2.2.1), (⟨be.block, be.off + 3, none⟩, .int .i64 x.2.2.2.1), (⟨be.block, be.off + 4, none⟩, sv x.2.2.2.2)]
set_option maxHeartbeats 3200000 in
set_option maxRecDepth 100000 in
theorem same_any (d f : Dl) (u v : Value) (w : World) (h1 : DlV w (Lt w.heap.size) u d) (h2 : DlV w (Lt w.heap.size) v f) (hl : d.gone.length ≤ 1000000 ∧ d.come.length ≤ 1000000 ∧ d.moved.length ≤ 1000000) :
    Calls Try.prog 14 #[u, v] w (Says (d = f) w) := by
  obtain ⟨A1, A2, A3, c1, c2, c3, rfl, _, _, _, _, _, r1, r2, r3⟩ := h1
  obtain ⟨B1, B2, B3, e1, e2, e3, rfl, _, _, _, _, _, s1, s2, s3⟩ := h2
  obtain ⟨w0, hw0⟩ : ∃ w0, w0 = (w.alloc (.cells #[.slice A1 d.gone.length c1, .slice A2 d.come.length c2, .slice A3 d.moved.length c3] 25)).alloc (.cells #[.slice B1 f.gone.length e1, .slice B2 f.come.length e2, .slice B3 f.moved.length e3] 25) := ⟨_, rfl⟩
  have hb0 : Below w.heap.size w w0 := by rw [hw0]; exact ((Below.refl _ _).alloc (Nat.le_refl _) _).alloc (by simp) _
  have hx := alloc2 w (.cells #[.slice A1 d.gone.length c1, .slice A2 d.come.length c2, .slice A3 d.moved.length c3] 25) (.cells #[.slice B1 f.gone.length e1, .slice B2 f.come.length e2, .slice B3 f.moved.length e3] 25)
  rw [← hw0] at hx
  obtain ⟨hx0, hy0⟩ := hx
  have HS1 := Lib.hid (sameList_any d.gone f.gone A1 B1 c1 e1 w0 (by omega) (r1.below hb0) (s1.below hb0))
  have HS2 := Lib.hid fun w1 (hb1 : Below w0.heap.size w0 w1) => sameList_any d.come f.come A2 B2 c2 e2 w1 (by omega) ((r2.below hb0).below hb1) ((s2.below hb0).below hb1)
  have HR3 := Lib.hid fun w1 (hb1 : Below w0.heap.size w0 w1) => (r3.below hb0).below hb1
  have HE3 := Lib.hid fun w1 (hb1 : Below w0.heap.size w0 w1) => (s3.below hb0).below hb1
  obtain ⟨a, ha⟩ : ∃ a, a = d.gone.length := ⟨_, rfl⟩
  obtain ⟨b, hb⟩ : ∃ b, b = d.come.length := ⟨_, rfl⟩
  obtain ⟨m, hm⟩ : ∃ m, m = d.moved.length := ⟨_, rfl⟩
  obtain ⟨a', ha'⟩ : ∃ a, a = f.gone.length := ⟨_, rfl⟩
  obtain ⟨b', hb'⟩ : ∃ b, b = f.come.length := ⟨_, rfl⟩
  obtain ⟨m', hm'⟩ : ∃ m, m = f.moved.length := ⟨_, rfl⟩
  rw [← ha, ← ha'] at HS1
  rw [← hb, ← hb'] at HS2
  rw [← ha, ← hb, ← hm, ← ha', ← hb', ← hm'] at hw0 ⊢
  rw [← ha, ← hb, ← hm] at hx0 hl
  rw [← ha', ← hb', ← hm'] at hy0
  have HLN := Lib.hid (And.intro hm hm')
  have HW0 := Lib.hid hw0
  have HX := Lib.hid hx0
  have HY := Lib.hid hy0
  have HB0 := Lib.hid hb0
  clear ha hb hm ha' hb' hm' hw0 hx0 hy0 hb0 r1 r2 r3 s1 s2 s3
  go_enter Try.func14, Try.ntmps14
  go_wp2_with fail
  rw [← HW0.out]
  refine HS1.out.mono ?_
  rintro e w1 ⟨r, rfl, hr, hb1⟩
  have hx1 := (hb1.block _ (lt_of_heap HX.out)).trans HX.out
  have hy1 := (hb1.block _ (lt_of_heap HY.out)).trans HY.out
  have HX1 := Lib.hid hx1
  have HY1 := Lib.hid hy1
  have HB1 := Lib.hid hb1
  have HBW := Lib.hid (HB0.out.trans (hb1.mono HB0.out.size))
  have HR := Lib.hid hr
  have HS3 := Lib.hid (HS2.out w1 hb1)
  clear hb1 hr HX HY HS1 HS2
  cases r with
  | false =>
    have HNE : Hid (¬ d = f) := Lib.hid fun h => by
      have := HR.out.2 (by rw [h])
      cases this
    clear hx1 hy1 HS3 HR
    go_wp2
    go_ret
    exact ⟨_, rfl, ⟨(fun h => by cases h), fun h => absurd h HNE.out⟩, HBW.out⟩
  | true =>
    have HG := Lib.hid (HR.out.1 rfl)
    have x1 : w1.cell? ⟨w.heap.size, 1, none⟩ = some (.slice A2 b c2) := (Lib.cell_of_heap hx1 _).trans rfl
    have y1 : w1.cell? ⟨w.heap.size + 1, 1, none⟩ = some (.slice B2 b' e2) := (Lib.cell_of_heap hy1 _).trans rfl
    clear hx1 hy1 HR
    go_wp2_with fail
    clear x1 y1
    refine HS3.out.mono ?_
    rintro e w2 ⟨r, rfl, hr, hb2⟩
    have hx2 := (hb2.block _ (lt_of_heap HX1.out)).trans HX1.out
    have hy2 := (hb2.block _ (lt_of_heap HY1.out)).trans HY1.out
    have x2 : w2.cell? ⟨w.heap.size, 2, none⟩ = some (.slice A3 m c3) := (Lib.cell_of_heap hx2 _).trans rfl
    have y2 : w2.cell? ⟨w.heap.size + 1, 2, none⟩ = some (.slice B3 m' e3) := (Lib.cell_of_heap hy2 _).trans rfl
    have HY2 := Lib.hid hy2
    have HB2 := Lib.hid (HB1.out.trans (hb2.mono HB1.out.size))
    have HBX := Lib.hid (HBW.out.trans (hb2.mono HBW.out.size))
    have HR := Lib.hid hr
    clear hx2 hy2 hb2 hr HS3 HX1 HY1 HB1 HBW
    cases r with
    | false =>
      have HNE : Hid (¬ d = f) := Lib.hid fun h => by
        have := HR.out.2 (by rw [h])
        cases this
      clear HR x2 y2
      go_wp2
      go_ret
      exact ⟨_, rfl, ⟨(fun h => by cases h), fun h => absurd h HNE.out⟩, HBX.out⟩
    | true =>
      have HC := Lib.hid (HR.out.1 rfl)
      clear HR
      by_cases hmm : m = m'
      · subst hmm
        go_wp2_with fail
        go_loopw [33] (fun i wr => ∃ k : Nat, k ≤ m ∧ i = .int .i64 k ∧ Below w2.heap.size w2 wr ∧ d.moved.take k = f.moved.take k) (fun i _ => m - (intOf i).toNat)
        case atStart => exact ⟨0, by omega, rfl, Below.refl _ _, rfl⟩
        case round =>
          obtain ⟨k, hkm, rfl, hB, hP⟩ := hrel
          have HP := Lib.hid hP
          have hB0 := HB2.out.trans (hB.mono HB2.out.size)
          have HBR := Lib.hid (HBX.out.trans (hB.mono HBX.out.size))
          clear hP x2 y2
          by_cases hlt : k < m
          · obtain ⟨x, hx⟩ : ∃ x, d.moved[k]? = some x := ⟨_, List.getElem?_eq_getElem (by rw [← HLN.out.1]; exact hlt)⟩
            obtain ⟨y, hy⟩ : ∃ y, f.moved[k]? = some y := ⟨_, List.getElem?_eq_getElem (by rw [← HLN.out.2]; exact hlt)⟩
            obtain ⟨ad, hA, _, a0, a1, a2, a3, a4⟩ := mv_at (HR3.out wr hB0) hx
            obtain ⟨w3, hw3⟩ : ∃ w3, w3 = wr.alloc (.cells #[.int .i64 x.1, .int .i64 x.2.1, .int .i64 x.2.2.1, .int .i64 x.2.2.2.1, sv x.2.2.2.2] 42) := ⟨_, rfl⟩
            have hb3 : Below wr.heap.size wr w3 := by rw [hw3]; exact (Below.refl _ _).alloc (Nat.le_refl _) _
            have hx3 : w3.heap[wr.heap.size]? = some (.cells #[.int .i64 x.1, .int .i64 x.2.1, .int .i64 x.2.2.1, .int .i64 x.2.2.2.1, sv x.2.2.2.2] 42 (0, 0)) := by rw [hw3]; exact alloc1 _ _
            obtain ⟨q0, q1, q2, q3, q4⟩ := mv_box hx3 rfl
            obtain ⟨be, hBE, _, b0, b1, b2, b3, b4⟩ := mv_at (HE3.out w3 (hB0.trans (hb3.mono hB0.size))) hy
            have hy3 := ((hB.trans (hb3.mono hB.size)).block _ (lt_of_heap HY2.out)).trans HY2.out
            have hik : (0 : Int) ≤ (k : Int) ∧ (k : Int) < (m : Int) := ⟨by omega, by omega⟩
            have HXK := Lib.hid hx
            have HYK := Lib.hid hy
            have HW3 := Lib.hid hw3
            have HBN := Lib.hid (hB.trans (hb3.mono hB.size))
            have HBNW := Lib.hid (HBR.out.trans (hb3.mono HBR.out.size))
            have HCC : Hid (AtCells ((⟨w.heap.size + 1, 2, none⟩, .slice B3 m e3) :: VwC (be.add (k * 5)) ⟨wr.heap.size, 0, none⟩ y x) w3) := Lib.hid ⟨(Lib.cell_of_heap hy3 _).trans rfl, b0, b1, b2, b3, b4, q0, q1, q2, q3, q4, trivial⟩
            rw [hA]
            rw [hBE] at HCC ⊢
            have HAD := Lib.hid hA
            have HBE := Lib.hid hBE
            clear hx hy hA hBE hB hB0 hw3 hb3 hx3 q0 q1 q2 q3 q4 b0 b1 b2 b3 b4 hy3
            go_wp2_with fail
            rw [← HW3.out]
            clear HW3 a0 a1 a2 a3 a4
            refine wp_region_held' (AtCells ((⟨w.heap.size + 1, 2, none⟩, .slice (some be) m e3) :: VwC (be.add (k * 5)) ⟨wr.heap.size, 0, none⟩ y x)) [] [0, 1, 2, 3, 4, 5, 6] [] [] (by kernel_rfl) (by kernel_rfl) ?sa ?ha
            case sa => exact HCC.out.below (Below.refl _ w3).drew
            case ha =>
            clear HCC
            simp only [opsAt, List.filterMap_cons, List.filterMap_nil, List.getElem?_toArray, List.getElem?_cons_succ, List.getElem?_cons_zero]
            refine wpFloat_nil ?_
            refine wpLoad_step ?va0 rfl (fun w' hS => ?ya0) ?ka0
            case ya0 =>
              obtain ⟨g0, g1, g2, g3, g4, g5, g6, g7, g8, g9, g10, _⟩ := hS
              go_simp
              try rfl
            case ka0 =>
            go_simp
            refine wpLoad_step ?va1 rfl (fun w' hS => ?ya1) ?ka1
            case ya1 =>
              obtain ⟨g0, g1, g2, g3, g4, g5, g6, g7, g8, g9, g10, _⟩ := hS
              go_simp
              try rfl
            case ka1 =>
            go_simp
            refine wpLoad_step ?va2 rfl (fun w' hS => ?ya2) ?ka2
            case ya2 =>
              obtain ⟨g0, g1, g2, g3, g4, g5, g6, g7, g8, g9, g10, _⟩ := hS
              go_simp
              try rfl
            case ka2 =>
            go_simp
            refine wpLoad_step ?va3 rfl (fun w' hS => ?ya3) ?ka3
            case ya3 =>
              obtain ⟨g0, g1, g2, g3, g4, g5, g6, g7, g8, g9, g10, _⟩ := hS
              go_simp
              try rfl
            case ka3 =>
            go_simp
            refine wpLoad_step ?va4 rfl (fun w' hS => ?ya4) ?ka4
            case ya4 =>
              obtain ⟨g0, g1, g2, g3, g4, g5, g6, g7, g8, g9, g10, _⟩ := hS
              go_simp
              try rfl
            case ka4 =>
            go_simp
            refine wpLoad_step ?va5 rfl (fun w' hS => ?ya5) ?ka5
            case ya5 =>
              obtain ⟨g0, g1, g2, g3, g4, g5, g6, g7, g8, g9, g10, _⟩ := hS
              go_simp
              try rfl
            case ka5 =>
            go_simp
            refine wpLoad_step (.bool (!decide (x = y))) rfl (fun w' hS => ?ya6) ?ka6
            case ya6 =>
              go_simp
              simp only [bs_toList]
              by_cases h1 : x.1 = y.1 <;> by_cases h2 : x.2.1 = y.2.1 <;> by_cases h3 : x.2.2.1 = y.2.2.1 <;> by_cases h4 : x.2.2.2.1 = y.2.2.2.1 <;> by_cases h5 : x.2.2.2.2 = y.2.2.2.2 <;> simp [h1, h2, h3, h4, h5, Prod.ext_iff, eq_comm]
            case ka6 =>
            by_cases he : x = y
            · have hq : decide (x = y) = true := decide_eq_true he
              have HE := Lib.hid he
              rw [hq]
              clear hq he
              refine wpLoad_nil ?_
              refine wpKeep_nil ?_
              go_wp2
              refine NoPanic.normal ?_
              go_wp2
              try rw [← HAD.out]
              try rw [← HBE.out]
              go_roundw
              case rel => exact ⟨k + 1, by omega, by go_num, HBN.out.drew, by rw [take_snoc HXK.out, take_snoc HYK.out, HP.out, HE.out]⟩
              case measure => simp [intOf]; omega
            · have hq : decide (x = y) = false := decide_eq_false he
              have HE := Lib.hid he
              rw [hq]
              clear hq he
              refine wpLoad_nil ?_
              refine wpKeep_nil ?_
              go_wp2
              refine NoPanic.normal ?_
              go_wp2
              go_ret
              refine ⟨_, rfl, ⟨(fun h => by cases h), fun h => ?_⟩, HBNW.out.drew⟩
              have e1 := HXK.out
              rw [h, HYK.out] at e1
              exact absurd (Option.some.inj e1).symm HE.out
          · have hp := HP.out
            rw [List.take_of_length_le (by rw [← HLN.out.1]; omega), List.take_of_length_le (by rw [← HLN.out.2]; omega)] at hp
            have HQ := Lib.hid hp
            clear hp hB hB0
            go_wp2
            go_ret
            exact ⟨_, rfl, ⟨fun _ => Dl.ext' HG.out HC.out HQ.out, fun _ => rfl⟩, HBR.out⟩
      · have HNE : Hid (¬ d = f) := Lib.hid fun h => hmm (by rw [HLN.out.1, HLN.out.2, h])
        have hq : ((m : Int) != (m' : Int)) = true := by simp; omega
        have hq2 : ((m : Int) == (m' : Int)) = false := by simp; omega
        clear hmm
        go_wp2
        go_ret
        exact ⟨_, rfl, ⟨(fun h => by cases h), fun h => absurd h HNE.out⟩, HBX.out⟩
end Go.Proofs.Ytlgdminpkkhejaa
