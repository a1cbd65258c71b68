/-
  The walk of slices.SortStableFunc over moves that are in order: nothing is written.
  Conditions: the moves lie in memory, in order; there are at most 10^6.
-/
import Derived.Test.YtlgdminpkkhejaaDtO
import Derived.Test.YtlgdminpkkhejaaBmix
namespace Go.Proofs.Ytlgdminpkkhejaa
open Go.RowKit

theorem MvAt.below {w w' : World} {a : Addr} {m : Mv} (h : MvAt w a m) (hb : Below w.heap.size w w') : MvAt w' a m :=
  ⟨(hb.cell (block_lt_of_cell h.1)).trans h.1, (hb.cell (block_lt_of_cell h.2.1)).trans h.2.1, (hb.cell (block_lt_of_cell h.2.2.1)).trans h.2.2.1, (hb.cell (block_lt_of_cell h.2.2.2.1)).trans h.2.2.2.1, (hb.cell (block_lt_of_cell h.2.2.2.2)).trans h.2.2.2.2⟩
/-- The cells of two moves. -/
def Two (a b : Addr) (x y : Mv) : List (Addr × Value) := [(a, .int .i64 x.1), (⟨a.block, a.off + 1, none⟩, .int .i64 x.2.1), (⟨a.block, a.off + 2, none⟩, .int .i64 x.2.2.1), (⟨a.block, a.off + 3, none⟩, .int .i64 x.2.2.2.1), (⟨a.block, a.off + 4, none⟩, sv x.2.2.2.2), (b, .int .i64 y.1), (⟨b.block, b.off + 1, none⟩, .int .i64 y.2.1), (⟨b.block, b.off + 2, none⟩, .int .i64 y.2.2.1), (⟨b.block, b.off + 3, none⟩, .int .i64 y.2.2.2.1), (⟨b.block, b.off + 4, none⟩, sv y.2.2.2.2)]
theorem two_at {w : World} {a b : Addr} {x y : Mv} (h : MvAt w a x) (h' : MvAt w b y) : AtCells (Two a b x y) w := ⟨h.1, h.2.1, h.2.2.1, h.2.2.2.1, h.2.2.2.2, h'.1, h'.2.1, h'.2.2.1, h'.2.2.2.1, h'.2.2.2.2, trivial⟩
/-- Moves in order. -/
def SrtV (l : List Mv) : Prop := ∀ (i j : Nat) (x y : Mv), i ≤ j → l[i]? = some x → l[j]? = some y → ¬ cmpV y x < 0
def Done (w : World) (e : Ending) (w' : World) : Prop := e = .returned (.tuple #[]) ∧ Below w.heap.size w w'

set_option maxHeartbeats 1600000 in
set_option maxRecDepth 100000 in
theorem isort_any (l : List Mv) (A : Option Addr) (c n a b : Nat) (w : World) (hn : l.length = n) (hl : n ≤ 1000000) (hs : SrtV l) (hab : a ≤ b) (hbn : b ≤ n) (h : Row w (Lt w.heap.size) A (flt mvC l)) :
    Calls Try.prog 53 #[.slice A n c, .int .i64 a, .int .i64 b, .func (.func 31) #[] #[]] w (Done w) := by
  have HN := Lib.hid hn
  have HR := Lib.hid h
  have HS := Lib.hid hs
  clear hn h hs
  go_enter Try.func53, Try.ntmps53
  go_wp2_with fail
  go_loopw [8] (fun i wr => ∃ k : Nat, a + 1 ≤ k ∧ (k ≤ b ∨ k = a + 1) ∧ i = .int .i64 k ∧ Below w.heap.size w wr) (fun i _ => b + 1 - (intOf i).toNat)
  case atStart => exact ⟨a + 1, by omega, by omega, by go_num, Below.refl _ _⟩
  case round =>
    obtain ⟨k, hak, hkb, rfl, hB⟩ := hrel
    have HB := Lib.hid hB
    clear hB
    by_cases hlt : k < b
    · have hlt' : decide ((k : Int) < (b : Int)) = true := by simp; omega
      obtain ⟨w1, hw1⟩ : ∃ w1, w1 = wr := ⟨_, rfl⟩
      rw [← hw1] at HB ⊢
      clear hw1
      go_wp2_with fail
      go_loopw [9] (fun j wr => j = .int .i64 k ∧ Below w.heap.size w wr) (fun _ _ => 0)
      case atStart => exact ⟨rfl, HB.out⟩
      case round =>
        obtain ⟨rfl, hB⟩ := hrel
        obtain ⟨k1, hk1⟩ : ∃ k1, k = k1 + 1 := ⟨k - 1, by omega⟩
        have hkl : k < l.length := by rw [HN.out]; omega
        obtain ⟨y, hy⟩ : ∃ y, l[k]? = some y := ⟨_, List.getElem?_eq_getElem hkl⟩
        obtain ⟨x, hx⟩ : ∃ x, l[k1]? = some x := ⟨_, List.getElem?_eq_getElem (by omega)⟩
        have hrow := HR.out.below hB
        obtain ⟨ad, hA, _, ay⟩ := mv_at hrow hy
        obtain ⟨ad', hA', _, ax⟩ := mv_at hrow hx
        obtain rfl : ad = ad' := Option.some.inj (hA.symm.trans hA')
        have hnl := HS.out k1 k x y (by omega) hx hy
        have hcm : decide (cmpV y x < 0) = false := decide_eq_false hnl
        obtain ⟨cv, hcv⟩ : ∃ cv, cv = cmpV y x := ⟨_, rfl⟩
        rw [← hcv] at hcm
        have HCV := Lib.hid hcv
        have HC := Lib.hid (two_at ay ax)
        have HBR := Lib.hid hB
        have hik : (0 : Int) ≤ (k : Int) ∧ (k : Int) < (n : Int) ∧ (a : Int) < (k : Int) := ⟨by omega, by omega, by omega⟩
        have hka : decide ((a : Int) < (k : Int)) = true := by simp; omega
        have hi1 : (0 : Int) ≤ (k1 : Int) ∧ (k1 : Int) < (n : Int) := ⟨by omega, by omega⟩
        have HKW : Hid (IntKind.i64.wrap ((k : Int) - 1) = (k1 : Int)) := Lib.hid (by rw [IntKind.wrap_i64]; omega)
        have HAD := Lib.hid hA
        rw [hA]
        clear hA hA' hx hy ax ay hrow hnl hcv hB hk1 hkl
        go_wp2_with fail
        refine wp_region_mix (AtCells (Two (ad.add (k * 5)) (ad.add (k1 * 5)) y x)) [(true, 0), (true, 1), (true, 2), (true, 3), (true, 4), (true, 5), (true, 6), (true, 7), (true, 8), (true, 9), (true, 10), (true, 11), (true, 12), (true, 13), (false, 14), (true, 15), (true, 16)] [] (by kernel_rfl) (by kernel_rfl) ?s0 ?h0
        case s0 => exact HC.out.below (Below.refl _ wr).drew
        case h0 =>
        simp only [mixAt, List.filterMap_cons, List.filterMap_nil, List.getElem?_toArray, List.getElem?_cons_succ, List.getElem?_cons_zero, Option.map_some]
        refine wpMix_load ?va0 rfl (fun w' hS => ?ya0) ?ka0
        case ya0 =>
          obtain ⟨g0, g1, g2, g3, g4, g5, g6, g7, g8, g9, _⟩ := hS
          go_simp
          try rfl
        case ka0 =>
        go_simp
        refine wpMix_load ?va1 rfl (fun w' hS => ?ya1) ?ka1
        case ya1 =>
          obtain ⟨g0, g1, g2, g3, g4, g5, g6, g7, g8, g9, _⟩ := hS
          go_simp
          try rfl
        case ka1 =>
        go_simp
        refine wpMix_load ?va2 rfl (fun w' hS => ?ya2) ?ka2
        case ya2 =>
          obtain ⟨g0, g1, g2, g3, g4, g5, g6, g7, g8, g9, _⟩ := hS
          go_simp
          try rfl
        case ka2 =>
        go_simp
        refine wpMix_load ?va3 rfl (fun w' hS => ?ya3) ?ka3
        case ya3 =>
          obtain ⟨g0, g1, g2, g3, g4, g5, g6, g7, g8, g9, _⟩ := hS
          go_simp
          try rfl
        case ka3 =>
        go_simp
        refine wpMix_load ?va4 rfl (fun w' hS => ?ya4) ?ka4
        case ya4 =>
          obtain ⟨g0, g1, g2, g3, g4, g5, g6, g7, g8, g9, _⟩ := hS
          go_simp
          try rfl
        case ka4 =>
        go_simp
        refine wpMix_load ?va5 rfl (fun w' hS => ?ya5) ?ka5
        case ya5 =>
          obtain ⟨g0, g1, g2, g3, g4, g5, g6, g7, g8, g9, _⟩ := hS
          go_simp
          try rfl
        case ka5 =>
        go_simp
        refine wpMix_load ?va6 rfl (fun w' hS => ?ya6) ?ka6
        case ya6 =>
          obtain ⟨g0, g1, g2, g3, g4, g5, g6, g7, g8, g9, _⟩ := hS
          go_simp
          try rfl
        case ka6 =>
        go_simp
        refine wpMix_load ?va7 rfl (fun w' hS => ?ya7) ?ka7
        case ya7 =>
          obtain ⟨g0, g1, g2, g3, g4, g5, g6, g7, g8, g9, _⟩ := hS
          go_simp
          try rfl
        case ka7 =>
        go_simp
        refine wpMix_load ?va8 rfl (fun w' hS => ?ya8) ?ka8
        case ya8 =>
          obtain ⟨g0, g1, g2, g3, g4, g5, g6, g7, g8, g9, _⟩ := hS
          go_simp
          try rfl
        case ka8 =>
        go_simp
        refine wpMix_load ?va9 rfl (fun w' hS => ?ya9) ?ka9
        case ya9 =>
          obtain ⟨g0, g1, g2, g3, g4, g5, g6, g7, g8, g9, _⟩ := hS
          go_simp
          try rfl
        case ka9 =>
        go_simp
        refine wpMix_load ?va10 rfl (fun w' hS => ?ya10) ?ka10
        case ya10 =>
          obtain ⟨g0, g1, g2, g3, g4, g5, g6, g7, g8, g9, _⟩ := hS
          go_simp
          try rfl
        case ka10 =>
        go_simp
        refine wpMix_load (.int .i64 (k1 : Int)) rfl (fun w' hS => ?y11) ?k11
        case y11 =>
          go_simp
          rw [HKW.out]
        case k11 =>
        go_simp
        refine wpMix_load ?vb12 rfl (fun w' hS => ?yb12) ?kb12
        case yb12 =>
          obtain ⟨g0, g1, g2, g3, g4, g5, g6, g7, g8, g9, _⟩ := hS
          go_simp
          try rfl
        case kb12 =>
        go_simp
        refine wpMix_load ?vb13 rfl (fun w' hS => ?yb13) ?kb13
        case yb13 =>
          obtain ⟨g0, g1, g2, g3, g4, g5, g6, g7, g8, g9, _⟩ := hS
          go_simp
          try rfl
        case kb13 =>
        go_simp
        refine wpMix_keep rfl ?_
        go_wp2_with fail
        refine (mcmp_any y x wr.drew).mono ?_
        rintro e w2 ⟨rfl, hb2⟩
        have hb2 : Below wr.heap.size wr w2 := (Below.refl _ wr).drew.trans hb2
        refine ⟨HC.out.below hb2, ?_⟩
        have HB2 := Lib.hid (HBR.out.trans (hb2.mono HBR.out.size))
        rw [← HCV.out]
        clear hb2
        refine wpMix_load ?vc15 rfl (fun w' hS => ?yc15) ?kc15
        case yc15 =>
          obtain _ := hS
          go_simp
          try rfl
        case kc15 =>
        go_simp
        refine wpMix_load ?vc16 rfl (fun w' hS => ?yc16) ?kc16
        case yc16 =>
          obtain _ := hS
          go_simp
          try rfl
        case kc16 =>
        go_simp
        refine wpMix_nil ?_
        simp only [opsAt, List.filterMap_nil, List.getElem?_toArray]
        go_wp2
        refine NoPanic.normal ?_
        go_wp2_with fail
        rw [← HAD.out]
        go_roundw
        case rel => exact ⟨k + 1, by omega, by omega, by go_num, HB2.out⟩
        case measure => simp [intOf]; omega
    · have hlt' : decide ((k : Int) < (b : Int)) = false := by simp; omega
      go_wp2
      refine bodyPost_end (results_none rfl _ _ _) rfl ⟨rfl, HB.out⟩
end Go.Proofs.Ytlgdminpkkhejaa
