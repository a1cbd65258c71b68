/-
  The walk of slices.SortStableFunc over moves that are in order, second part: symMerge writes nothing.
  Conditions: the moves lie in memory, in order; there are at most 10^6.
-/
import Derived.Test.YtlgdminpkkhejaaDtV
namespace Go.Proofs.Ytlgdminpkkhejaa
open Go.RowKit

set_option maxHeartbeats 6400000 in
set_option maxRecDepth 100000 in
theorem symm_any (l : List Mv) (A : Option Addr) (c n : Nat) (hn : l.length = n) (hl : n ≤ 1000000) (hs : SrtV l) : ∀ (d a m b : Nat) (w : World), b - a ≤ d → a < m → m < b → b ≤ n → Row w (Lt w.heap.size) A (flt mvC l) →
    Calls Try.prog 54 #[.slice A n c, .int .i64 a, .int .i64 m, .int .i64 b, .func (.func 31) #[] #[]] w (Done w) := by
  have HN := Lib.hid hn
  have HS := Lib.hid hs
  clear hn hs
  intro d
  induction d with
  | zero => intro a m b w h1 h2 h3; omega
  | succ d ih =>
    intro a m b w hd ham hmb hbn h
    have HR := Lib.hid h
    have HI := Lib.hid ih
    clear h ih
    by_cases c1 : m = a + 1
    · have q1 : ((m : Int) - (a : Int) == 1) = true := by simp; omega
      have hm1 : (m : Int) - 1 = (a : Int) := by omega
      have HC1 := Lib.hid c1
      clear c1
      go_enter Try.func54, Try.ntmps54
      go_wp2_with fail
      go_loopw [10, 11] (fun i j wr => ∃ k : Nat, i = .int .i64 m ∧ j = .int .i64 k ∧ m ≤ k ∧ k ≤ b ∧ Below w.heap.size w wr) (fun _ j _ => (intOf j).toNat)
      case atStart => exact ⟨b, rfl, rfl, by omega, by omega, Below.refl _ _⟩
      case round =>
        obtain ⟨k, rfl, rfl, hmk, hkb, hB⟩ := hrel
        by_cases hlt : m < k
        · have hlt' : decide ((m : Int) < (k : Int)) = true := by simp; omega
          obtain ⟨q, hq⟩ : ∃ q, q = (m + k) / 2 := ⟨_, rfl⟩
          have hqi : ((m : Int) + (k : Int)) / 2 = (q : Int) := by omega
          have hq1 : m ≤ q ∧ q < k := ⟨by omega, by omega⟩
          clear hq
          obtain ⟨x, hx⟩ : ∃ x, l[q]? = some x := ⟨_, List.getElem?_eq_getElem (by rw [HN.out]; omega)⟩
          obtain ⟨y, hy⟩ : ∃ y, l[a]? = some y := ⟨_, List.getElem?_eq_getElem (by rw [HN.out]; omega)⟩
          have hrow := HR.out.below hB
          obtain ⟨ad, hA, _, ax⟩ := mv_at hrow hx
          obtain ⟨ad', hA', _, ay⟩ := mv_at hrow hy
          obtain rfl : ad = ad' := Option.some.inj (hA.symm.trans hA')
          have hcm : decide (cmpV x y < 0) = false := decide_eq_false (HS.out a q y x (by omega) hy hx)
          obtain ⟨cv, hcv⟩ : ∃ cv, cv = cmpV x y := ⟨_, rfl⟩
          rw [← hcv] at hcm
          have HCV := Lib.hid hcv
          have HC := Lib.hid (two_at ax ay)
          have HBR := Lib.hid hB
          have hi1 : (0 : Int) ≤ (q : Int) ∧ (q : Int) < (n : Int) := ⟨by omega, by omega⟩
          have hi2 : (0 : Int) ≤ (a : Int) ∧ (a : Int) < (n : Int) := ⟨by omega, by omega⟩
          have HAD := Lib.hid hA
          rw [hA]
          clear hA hA' hx hy ax ay hrow hcv hB
          go_wp2_with fail
          refine wp_region_mix (AtCells (Two (ad.add (q * 5)) (ad.add (a * 5)) x y)) [(true, 0), (true, 1), (true, 2), (true, 3), (true, 4), (true, 5), (true, 6), (true, 7), (true, 8), (false, 9), (true, 10)] [] (by kernel_rfl) (by kernel_rfl) ?sA ?hA
          case sA => exact HC.out.below (Below.refl _ wr).drew
          case hA =>
          simp only [mixAt, List.filterMap_cons, List.filterMap_nil, List.getElem?_toArray, List.getElem?_cons_succ, List.getElem?_cons_zero, Option.map_some]
          refine wpMix_load ?vAa0 rfl (fun w' hS => ?yAa0) ?kAa0
          case yAa0 =>
            obtain ⟨g0, g1, g2, g3, g4, g5, g6, g7, g8, g9, _⟩ := hS
            go_simp
            try rfl
          case kAa0 =>
          go_simp
          refine wpMix_load ?vAa1 rfl (fun w' hS => ?yAa1) ?kAa1
          case yAa1 =>
            obtain ⟨g0, g1, g2, g3, g4, g5, g6, g7, g8, g9, _⟩ := hS
            go_simp
            try rfl
          case kAa1 =>
          go_simp
          refine wpMix_load ?vAa2 rfl (fun w' hS => ?yAa2) ?kAa2
          case yAa2 =>
            obtain ⟨g0, g1, g2, g3, g4, g5, g6, g7, g8, g9, _⟩ := hS
            go_simp
            try rfl
          case kAa2 =>
          go_simp
          refine wpMix_load ?vAa3 rfl (fun w' hS => ?yAa3) ?kAa3
          case yAa3 =>
            obtain ⟨g0, g1, g2, g3, g4, g5, g6, g7, g8, g9, _⟩ := hS
            go_simp
            try rfl
          case kAa3 =>
          go_simp
          refine wpMix_load ?vAa4 rfl (fun w' hS => ?yAa4) ?kAa4
          case yAa4 =>
            obtain ⟨g0, g1, g2, g3, g4, g5, g6, g7, g8, g9, _⟩ := hS
            go_simp
            try rfl
          case kAa4 =>
          go_simp
          refine wpMix_load ?vAa5 rfl (fun w' hS => ?yAa5) ?kAa5
          case yAa5 =>
            obtain ⟨g0, g1, g2, g3, g4, g5, g6, g7, g8, g9, _⟩ := hS
            go_simp
            try rfl
          case kAa5 =>
          go_simp
          refine wpMix_load ?vAa6 rfl (fun w' hS => ?yAa6) ?kAa6
          case yAa6 =>
            obtain ⟨g0, g1, g2, g3, g4, g5, g6, g7, g8, g9, _⟩ := hS
            go_simp
            try rfl
          case kAa6 =>
          go_simp
          refine wpMix_load ?vAa7 rfl (fun w' hS => ?yAa7) ?kAa7
          case yAa7 =>
            obtain ⟨g0, g1, g2, g3, g4, g5, g6, g7, g8, g9, _⟩ := hS
            go_simp
            try rfl
          case kAa7 =>
          go_simp
          refine wpMix_load ?vAa8 rfl (fun w' hS => ?yAa8) ?kAa8
          case yAa8 =>
            obtain ⟨g0, g1, g2, g3, g4, g5, g6, g7, g8, g9, _⟩ := hS
            go_simp
            try rfl
          case kAa8 =>
          go_simp
          refine wpMix_keep rfl ?_
          go_wp2_with fail
          refine (mcmp_any x y wr.drew).mono ?_
          rintro e w2 ⟨rfl, hb2⟩
          have hb2 : Below wr.heap.size wr w2 := (Below.refl _ wr).drew.trans hb2
          refine ⟨HC.out.below hb2, ?_⟩
          have HB2 := Lib.hid (HBR.out.trans (hb2.mono HBR.out.size))
          rw [← HCV.out]
          clear hb2
          refine wpMix_load ?vAb10 rfl (fun w' hS => ?yAb10) ?kAb10
          case yAb10 =>
            obtain _ := hS
            go_simp
            try rfl
          case kAb10 =>
          go_simp
          refine wpMix_nil ?_
          simp only [opsAt, List.filterMap_nil, List.getElem?_toArray]
          go_wp2
          refine NoPanic.normal ?_
          go_wp2_with fail
          try rw [← HAD.out]
          first | go_roundw | refine ⟨?rel, ?measure⟩
          case rel => exact ⟨q, rfl, rfl, hq1.1, by omega, HB2.out⟩
          case measure => simp [intOf]; omega
        · have hmk2 : k = m := by omega
          subst hmk2
          have HB := Lib.hid hB
          clear hB
          have hlt' : decide ((k : Int) < (k : Int)) = false := by simp
          go_wp2_with fail
          go_loopw [13] (fun i wr => i = .int .i64 a ∧ Below w.heap.size w wr) (fun _ _ => 0)
          case atStart => exact ⟨rfl, HB.out⟩
          case round =>
            obtain ⟨rfl, hB⟩ := hrel
            have HB3 := Lib.hid hB
            clear hB HB
            have hla : decide ((a : Int) < (a : Int)) = false := by simp
            go_wp2_with fail
            refine bodyPost_ret (results_none rfl _ _ _) rfl ⟨rfl, HB3.out⟩
    · have q1 : ((m : Int) - (a : Int) == 1) = false := by simp; omega
      by_cases c2 : b = m + 1
      · have q2 : ((b : Int) - (m : Int) == 1) = true := by simp; omega
        have HC2 := Lib.hid c2
        clear c1 c2
        go_enter Try.func54, Try.ntmps54
        go_wp2_with fail
        go_loopw [14, 15] (fun i j wr => ∃ k : Nat, i = .int .i64 k ∧ j = .int .i64 m ∧ k ≤ m ∧ Below w.heap.size w wr) (fun i _ _ => m - (intOf i).toNat)
        case atStart => exact ⟨a, rfl, rfl, by omega, Below.refl _ _⟩
        case round =>
          obtain ⟨k, rfl, rfl, hkm, hB⟩ := hrel
          by_cases hlt : k < m
          · have hlt' : decide ((k : Int) < (m : Int)) = true := by simp; omega
            obtain ⟨q, hq⟩ : ∃ q, q = (k + m) / 2 := ⟨_, rfl⟩
            have hqi : ((k : Int) + (m : Int)) / 2 = (q : Int) := by omega
            have hq1 : k ≤ q ∧ q < m := ⟨by omega, by omega⟩
            clear hq
            obtain ⟨x, hx⟩ : ∃ x, l[m]? = some x := ⟨_, List.getElem?_eq_getElem (by rw [HN.out]; omega)⟩
            obtain ⟨y, hy⟩ : ∃ y, l[q]? = some y := ⟨_, List.getElem?_eq_getElem (by rw [HN.out]; omega)⟩
            have hrow := HR.out.below hB
            obtain ⟨ad, hA, _, ax⟩ := mv_at hrow hx
            obtain ⟨ad', hA', _, ay⟩ := mv_at hrow hy
            obtain rfl : ad = ad' := Option.some.inj (hA.symm.trans hA')
            have hcm : decide (cmpV x y < 0) = false := decide_eq_false (HS.out q m y x (by omega) hy hx)
            obtain ⟨cv, hcv⟩ : ∃ cv, cv = cmpV x y := ⟨_, rfl⟩
            rw [← hcv] at hcm
            have HCV := Lib.hid hcv
            have HC := Lib.hid (two_at ax ay)
            have HBR := Lib.hid hB
            have hi1 : (0 : Int) ≤ (m : Int) ∧ (m : Int) < (n : Int) := ⟨by omega, by omega⟩
            have hi2 : (0 : Int) ≤ (q : Int) ∧ (q : Int) < (n : Int) := ⟨by omega, by omega⟩
            have HAD := Lib.hid hA
            rw [hA]
            clear hA hA' hx hy ax ay hrow hcv hB
            go_wp2_with fail
            refine wp_region_mix (AtCells (Two (ad.add (m * 5)) (ad.add (q * 5)) x y)) [(true, 0), (true, 1), (true, 2), (true, 3), (true, 4), (true, 5), (true, 6), (true, 7), (true, 8), (false, 9), (true, 10), (true, 11)] [] (by kernel_rfl) (by kernel_rfl) ?sB ?hB
            case sB => exact HC.out.below (Below.refl _ wr).drew
            case hB =>
            simp only [mixAt, List.filterMap_cons, List.filterMap_nil, List.getElem?_toArray, List.getElem?_cons_succ, List.getElem?_cons_zero, Option.map_some]
            refine wpMix_load ?vBa0 rfl (fun w' hS => ?yBa0) ?kBa0
            case yBa0 =>
              obtain ⟨g0, g1, g2, g3, g4, g5, g6, g7, g8, g9, _⟩ := hS
              go_simp
              try rfl
            case kBa0 =>
            go_simp
            refine wpMix_load ?vBa1 rfl (fun w' hS => ?yBa1) ?kBa1
            case yBa1 =>
              obtain ⟨g0, g1, g2, g3, g4, g5, g6, g7, g8, g9, _⟩ := hS
              go_simp
              try rfl
            case kBa1 =>
            go_simp
            refine wpMix_load ?vBa2 rfl (fun w' hS => ?yBa2) ?kBa2
            case yBa2 =>
              obtain ⟨g0, g1, g2, g3, g4, g5, g6, g7, g8, g9, _⟩ := hS
              go_simp
              try rfl
            case kBa2 =>
            go_simp
            refine wpMix_load ?vBa3 rfl (fun w' hS => ?yBa3) ?kBa3
            case yBa3 =>
              obtain ⟨g0, g1, g2, g3, g4, g5, g6, g7, g8, g9, _⟩ := hS
              go_simp
              try rfl
            case kBa3 =>
            go_simp
            refine wpMix_load ?vBa4 rfl (fun w' hS => ?yBa4) ?kBa4
            case yBa4 =>
              obtain ⟨g0, g1, g2, g3, g4, g5, g6, g7, g8, g9, _⟩ := hS
              go_simp
              try rfl
            case kBa4 =>
            go_simp
            refine wpMix_load ?vBa5 rfl (fun w' hS => ?yBa5) ?kBa5
            case yBa5 =>
              obtain ⟨g0, g1, g2, g3, g4, g5, g6, g7, g8, g9, _⟩ := hS
              go_simp
              try rfl
            case kBa5 =>
            go_simp
            refine wpMix_load ?vBa6 rfl (fun w' hS => ?yBa6) ?kBa6
            case yBa6 =>
              obtain ⟨g0, g1, g2, g3, g4, g5, g6, g7, g8, g9, _⟩ := hS
              go_simp
              try rfl
            case kBa6 =>
            go_simp
            refine wpMix_load ?vBa7 rfl (fun w' hS => ?yBa7) ?kBa7
            case yBa7 =>
              obtain ⟨g0, g1, g2, g3, g4, g5, g6, g7, g8, g9, _⟩ := hS
              go_simp
              try rfl
            case kBa7 =>
            go_simp
            refine wpMix_load ?vBa8 rfl (fun w' hS => ?yBa8) ?kBa8
            case yBa8 =>
              obtain ⟨g0, g1, g2, g3, g4, g5, g6, g7, g8, g9, _⟩ := hS
              go_simp
              try rfl
            case kBa8 =>
            go_simp
            refine wpMix_keep rfl ?_
            go_wp2_with fail
            refine (mcmp_any x y wr.drew).mono ?_
            rintro e w2 ⟨rfl, hb2⟩
            have hb2 : Below wr.heap.size wr w2 := (Below.refl _ wr).drew.trans hb2
            refine ⟨HC.out.below hb2, ?_⟩
            have HB2 := Lib.hid (HBR.out.trans (hb2.mono HBR.out.size))
            rw [← HCV.out]
            clear hb2
            refine wpMix_load ?vBb10 rfl (fun w' hS => ?yBb10) ?kBb10
            case yBb10 =>
              obtain _ := hS
              go_simp
              try rfl
            case kBb10 =>
            go_simp
            refine wpMix_load ?vBb11 rfl (fun w' hS => ?yBb11) ?kBb11
            case yBb11 =>
              obtain _ := hS
              go_simp
              try rfl
            case kBb11 =>
            go_simp
            refine wpMix_nil ?_
            simp only [opsAt, List.filterMap_nil, List.getElem?_toArray]
            go_wp2
            refine NoPanic.normal ?_
            go_wp2_with fail
            try rw [← HAD.out]
            first | go_roundw | refine ⟨?rel, ?measure⟩
            case rel => exact ⟨q + 1, by go_num, rfl, by omega, HB2.out⟩
            case measure => simp [intOf]; omega
          · have hmk2 : k = m := by omega
            subst hmk2
            have HB := Lib.hid hB
            clear hB
            have hlt' : decide ((k : Int) < (k : Int)) = false := by simp
            go_wp2_with fail
            go_loopw [17] (fun i wr => i = .int .i64 k ∧ Below w.heap.size w wr) (fun _ _ => 0)
            case atStart => exact ⟨rfl, HB.out⟩
            case round =>
              obtain ⟨rfl, hB⟩ := hrel
              have HB3 := Lib.hid hB
              clear hB HB
              go_wp2_with fail
              refine bodyPost_ret (results_none rfl _ _ _) rfl ⟨rfl, HB3.out⟩
      · have q2 : ((b : Int) - (m : Int) == 1) = false := by simp; omega
        clear c1 c2
        obtain ⟨mid, hmid⟩ : ∃ mid, mid = (a + b) / 2 := ⟨_, rfl⟩
        have hmi : ((a : Int) + (b : Int)) / 2 = (mid : Int) := by omega
        have hmab : a < mid ∧ mid < b := ⟨by omega, by omega⟩
        have hmid2 : 2 * mid ≤ a + b ∧ a + b ≤ 2 * mid + 1 := ⟨by omega, by omega⟩
        obtain ⟨N2, hN2⟩ : ∃ N2, N2 = mid + m := ⟨_, rfl⟩
        have HN2 := Lib.hid hN2
        obtain ⟨pp, hpp⟩ : ∃ pp, pp + 1 = N2 := ⟨N2 - 1, by omega⟩
        have hp1 : (mid : Int) + (m : Int) - 1 = (pp : Int) := by omega
        clear hmid hN2
        by_cases hbig : mid < m
        · have qb : decide ((mid : Int) < (m : Int)) = true := by simp; omega
          obtain ⟨st, hst⟩ : ∃ st, st + b = N2 := ⟨N2 - b, by omega⟩
          have hn2 := HN2.out
          have hst1 : (mid : Int) + (m : Int) - (b : Int) = (st : Int) := by omega
          have hsb : a ≤ st ∧ st ≤ mid := ⟨by omega, by omega⟩
          have HST := Lib.hid hst
          have HPP := Lib.hid hpp
          clear hn2 hst hpp
          go_enter Try.func54, Try.ntmps54
          go_wp2_with fail
          go_loopw [20, 21] (fun i j wr => ∃ k : Nat, i = .int .i64 k ∧ j = .int .i64 mid ∧ st ≤ k ∧ k ≤ mid ∧ Below w.heap.size w wr) (fun i _ _ => mid - (intOf i).toNat)
          case atStart => exact ⟨st, rfl, rfl, by omega, by omega, Below.refl _ _⟩
          case round =>
            obtain ⟨k, rfl, rfl, hsk, hkm, hB⟩ := hrel
            by_cases hlt : k < mid
            · have hlt' : decide ((k : Int) < (mid : Int)) = true := by simp; omega
              obtain ⟨q, hq⟩ : ∃ q, q = (k + mid) / 2 := ⟨_, rfl⟩
              have hqi : ((k : Int) + (mid : Int)) / 2 = (q : Int) := by omega
              have hq1 : k ≤ q ∧ q < mid := ⟨by omega, by omega⟩
              have hn2 := HN2.out
              have hpp := HPP.out
              obtain ⟨u, hu⟩ : ∃ u, u + q = pp := ⟨pp - q, by omega⟩
              have hu1 : (pp : Int) - (q : Int) = (u : Int) := by omega
              have hu2 : q ≤ u ∧ u < n := ⟨by have := HST.out; omega, by have := HST.out; omega⟩
              clear hq hu hn2 hpp
              have HUW : Hid (IntKind.i64.wrap (u : Int) = (u : Int)) := Lib.hid (by rw [IntKind.wrap_i64]; omega)
              obtain ⟨x, hx⟩ : ∃ x, l[u]? = some x := ⟨_, List.getElem?_eq_getElem (by rw [HN.out]; omega)⟩
              obtain ⟨y, hy⟩ : ∃ y, l[q]? = some y := ⟨_, List.getElem?_eq_getElem (by rw [HN.out]; omega)⟩
              have hrow := HR.out.below hB
              obtain ⟨ad, hA, _, ax⟩ := mv_at hrow hx
              obtain ⟨ad', hA', _, ay⟩ := mv_at hrow hy
              obtain rfl : ad = ad' := Option.some.inj (hA.symm.trans hA')
              have hcm : decide (cmpV x y < 0) = false := decide_eq_false (HS.out q u y x (by omega) hy hx)
              obtain ⟨cv, hcv⟩ : ∃ cv, cv = cmpV x y := ⟨_, rfl⟩
              rw [← hcv] at hcm
              have HCV := Lib.hid hcv
              have HC := Lib.hid (two_at ax ay)
              have HBR := Lib.hid hB
              have hi1 : (0 : Int) ≤ (u : Int) ∧ (u : Int) < (n : Int) := ⟨by omega, by omega⟩
              have hi2 : (0 : Int) ≤ (q : Int) ∧ (q : Int) < (n : Int) := ⟨by omega, by omega⟩
              have HAD := Lib.hid hA
              rw [hA]
              clear hA hA' hx hy ax ay hrow hcv hB
              go_wp2_with fail
              refine wp_region_mix (AtCells (Two (ad.add (u * 5)) (ad.add (q * 5)) x y)) [(true, 0), (true, 1), (true, 2), (true, 3), (true, 4), (true, 5), (true, 6), (true, 7), (true, 8), (true, 9), (true, 10), (false, 11), (true, 12), (true, 13)] [] (by kernel_rfl) (by kernel_rfl) ?sC ?hC
              case sC => exact HC.out.below (Below.refl _ wr).drew
              case hC =>
              simp only [mixAt, List.filterMap_cons, List.filterMap_nil, List.getElem?_toArray, List.getElem?_cons_succ, List.getElem?_cons_zero, Option.map_some]
              refine wpMix_load ?vCa0 rfl (fun w' hS => ?yCa0) ?kCa0
              case yCa0 =>
                obtain ⟨g0, g1, g2, g3, g4, g5, g6, g7, g8, g9, _⟩ := hS
                go_simp
                try rfl
              case kCa0 =>
              go_simp
              refine wpMix_load ?vCa1 rfl (fun w' hS => ?yCa1) ?kCa1
              case yCa1 =>
                obtain ⟨g0, g1, g2, g3, g4, g5, g6, g7, g8, g9, _⟩ := hS
                go_simp
                try rfl
              case kCa1 =>
              go_simp
              refine wpMix_load ?vCa2 rfl (fun w' hS => ?yCa2) ?kCa2
              case yCa2 =>
                obtain ⟨g0, g1, g2, g3, g4, g5, g6, g7, g8, g9, _⟩ := hS
                go_simp
                try rfl
              case kCa2 =>
              go_simp
              refine wpMix_load ?vCa3 rfl (fun w' hS => ?yCa3) ?kCa3
              case yCa3 =>
                obtain ⟨g0, g1, g2, g3, g4, g5, g6, g7, g8, g9, _⟩ := hS
                go_simp
                try rfl
              case kCa3 =>
              go_simp
              refine wpMix_load (.int .i64 (u : Int)) rfl (fun w' hS => ?yC4) ?kC4
              case yC4 =>
                go_simp
                rw [HUW.out]
              case kC4 =>
              go_simp
              refine wpMix_load ?vCd5 rfl (fun w' hS => ?yCd5) ?kCd5
              case yCd5 =>
                obtain ⟨g0, g1, g2, g3, g4, g5, g6, g7, g8, g9, _⟩ := hS
                go_simp
                try rfl
              case kCd5 =>
              go_simp
              refine wpMix_load ?vCd6 rfl (fun w' hS => ?yCd6) ?kCd6
              case yCd6 =>
                obtain ⟨g0, g1, g2, g3, g4, g5, g6, g7, g8, g9, _⟩ := hS
                go_simp
                try rfl
              case kCd6 =>
              go_simp
              refine wpMix_load ?vCd7 rfl (fun w' hS => ?yCd7) ?kCd7
              case yCd7 =>
                obtain ⟨g0, g1, g2, g3, g4, g5, g6, g7, g8, g9, _⟩ := hS
                go_simp
                try rfl
              case kCd7 =>
              go_simp
              refine wpMix_load ?vCd8 rfl (fun w' hS => ?yCd8) ?kCd8
              case yCd8 =>
                obtain ⟨g0, g1, g2, g3, g4, g5, g6, g7, g8, g9, _⟩ := hS
                go_simp
                try rfl
              case kCd8 =>
              go_simp
              refine wpMix_load ?vCd9 rfl (fun w' hS => ?yCd9) ?kCd9
              case yCd9 =>
                obtain ⟨g0, g1, g2, g3, g4, g5, g6, g7, g8, g9, _⟩ := hS
                go_simp
                try rfl
              case kCd9 =>
              go_simp
              refine wpMix_load ?vCd10 rfl (fun w' hS => ?yCd10) ?kCd10
              case yCd10 =>
                obtain ⟨g0, g1, g2, g3, g4, g5, g6, g7, g8, g9, _⟩ := hS
                go_simp
                try rfl
              case kCd10 =>
              go_simp
              refine wpMix_keep rfl ?_
              go_wp2_with fail
              refine (mcmp_any x y wr.drew).mono ?_
              rintro e w2 ⟨rfl, hb2⟩
              have hb2 : Below wr.heap.size wr w2 := (Below.refl _ wr).drew.trans hb2
              refine ⟨HC.out.below hb2, ?_⟩
              have HB2 := Lib.hid (HBR.out.trans (hb2.mono HBR.out.size))
              rw [← HCV.out]
              clear hb2
              refine wpMix_load ?vCb12 rfl (fun w' hS => ?yCb12) ?kCb12
              case yCb12 =>
                obtain _ := hS
                go_simp
                try rfl
              case kCb12 =>
              go_simp
              refine wpMix_load ?vCb13 rfl (fun w' hS => ?yCb13) ?kCb13
              case yCb13 =>
                obtain _ := hS
                go_simp
                try rfl
              case kCb13 =>
              go_simp
              refine wpMix_nil ?_
              simp only [opsAt, List.filterMap_nil, List.getElem?_toArray]
              go_wp2
              refine NoPanic.normal ?_
              go_wp2_with fail
              try rw [← HAD.out]
              first | go_roundw | refine ⟨?rel, ?measure⟩
              case rel => exact ⟨q + 1, by go_num, rfl, by omega, by omega, HB2.out⟩
              case measure => simp [intOf]; omega
            · have hkm2 : k = mid := by omega
              subst hkm2
              have HB := Lib.hid hB
              have hlt' : decide ((k : Int) < (k : Int)) = false := by simp
              have he2 : (k : Int) + (m : Int) - (k : Int) = (m : Int) := by omega
              have qa : decide ((a : Int) < (k : Int)) = true := by simp; omega
              have qm : decide ((m : Int) < (b : Int)) = true := by simp; omega
              have hmm : decide ((m : Int) < (m : Int)) = false := by simp
              have hI := HI.out k m b wr (by omega) hbig (by omega) hbn (HR.out.below hB)
              have HI2 := Lib.hid hI
              clear hB hI
              go_wp2_with fail
              refine HI2.out.mono ?_
              rintro e w2 ⟨rfl, hb2⟩
              have HB2 := Lib.hid (HB.out.trans (hb2.mono HB.out.size))
              clear hb2
              go_wp2
              refine bodyPost_end (results_none rfl _ _ _) rfl ⟨rfl, HB2.out⟩
        · have qb : decide ((mid : Int) < (m : Int)) = false := by simp; omega
          have HPP := Lib.hid hpp
          clear hpp
          go_enter Try.func54, Try.ntmps54
          go_wp2_with fail
          go_loopw [20, 21] (fun i j wr => ∃ k : Nat, i = .int .i64 k ∧ j = .int .i64 m ∧ a ≤ k ∧ k ≤ m ∧ Below w.heap.size w wr) (fun i _ _ => m - (intOf i).toNat)
          case atStart => exact ⟨a, rfl, rfl, by omega, by omega, Below.refl _ _⟩
          case round =>
            obtain ⟨k, rfl, rfl, hsk, hkm, hB⟩ := hrel
            by_cases hlt : k < m
            · have hlt' : decide ((k : Int) < (m : Int)) = true := by simp; omega
              obtain ⟨q, hq⟩ : ∃ q, q = (k + m) / 2 := ⟨_, rfl⟩
              have hqi : ((k : Int) + (m : Int)) / 2 = (q : Int) := by omega
              have hq1 : k ≤ q ∧ q < m := ⟨by omega, by omega⟩
              have hn2 := HN2.out
              have hpp := HPP.out
              obtain ⟨u, hu⟩ : ∃ u, u + q = pp := ⟨pp - q, by omega⟩
              have hu1 : (pp : Int) - (q : Int) = (u : Int) := by omega
              have hu2 : q ≤ u ∧ u < n := ⟨by omega, by omega⟩
              clear hq hu hn2 hpp
              have HUW : Hid (IntKind.i64.wrap (u : Int) = (u : Int)) := Lib.hid (by rw [IntKind.wrap_i64]; omega)
              obtain ⟨x, hx⟩ : ∃ x, l[u]? = some x := ⟨_, List.getElem?_eq_getElem (by rw [HN.out]; omega)⟩
              obtain ⟨y, hy⟩ : ∃ y, l[q]? = some y := ⟨_, List.getElem?_eq_getElem (by rw [HN.out]; omega)⟩
              have hrow := HR.out.below hB
              obtain ⟨ad, hA, _, ax⟩ := mv_at hrow hx
              obtain ⟨ad', hA', _, ay⟩ := mv_at hrow hy
              obtain rfl : ad = ad' := Option.some.inj (hA.symm.trans hA')
              have hcm : decide (cmpV x y < 0) = false := decide_eq_false (HS.out q u y x (by omega) hy hx)
              obtain ⟨cv, hcv⟩ : ∃ cv, cv = cmpV x y := ⟨_, rfl⟩
              rw [← hcv] at hcm
              have HCV := Lib.hid hcv
              have HC := Lib.hid (two_at ax ay)
              have HBR := Lib.hid hB
              have hi1 : (0 : Int) ≤ (u : Int) ∧ (u : Int) < (n : Int) := ⟨by omega, by omega⟩
              have hi2 : (0 : Int) ≤ (q : Int) ∧ (q : Int) < (n : Int) := ⟨by omega, by omega⟩
              have HAD := Lib.hid hA
              rw [hA]
              clear hA hA' hx hy ax ay hrow hcv hB
              go_wp2_with fail
              refine wp_region_mix (AtCells (Two (ad.add (u * 5)) (ad.add (q * 5)) x y)) [(true, 0), (true, 1), (true, 2), (true, 3), (true, 4), (true, 5), (true, 6), (true, 7), (true, 8), (true, 9), (true, 10), (false, 11), (true, 12), (true, 13)] [] (by kernel_rfl) (by kernel_rfl) ?sD ?hD
              case sD => exact HC.out.below (Below.refl _ wr).drew
              case hD =>
              simp only [mixAt, List.filterMap_cons, List.filterMap_nil, List.getElem?_toArray, List.getElem?_cons_succ, List.getElem?_cons_zero, Option.map_some]
              refine wpMix_load ?vDa0 rfl (fun w' hS => ?yDa0) ?kDa0
              case yDa0 =>
                obtain ⟨g0, g1, g2, g3, g4, g5, g6, g7, g8, g9, _⟩ := hS
                go_simp
                try rfl
              case kDa0 =>
              go_simp
              refine wpMix_load ?vDa1 rfl (fun w' hS => ?yDa1) ?kDa1
              case yDa1 =>
                obtain ⟨g0, g1, g2, g3, g4, g5, g6, g7, g8, g9, _⟩ := hS
                go_simp
                try rfl
              case kDa1 =>
              go_simp
              refine wpMix_load ?vDa2 rfl (fun w' hS => ?yDa2) ?kDa2
              case yDa2 =>
                obtain ⟨g0, g1, g2, g3, g4, g5, g6, g7, g8, g9, _⟩ := hS
                go_simp
                try rfl
              case kDa2 =>
              go_simp
              refine wpMix_load ?vDa3 rfl (fun w' hS => ?yDa3) ?kDa3
              case yDa3 =>
                obtain ⟨g0, g1, g2, g3, g4, g5, g6, g7, g8, g9, _⟩ := hS
                go_simp
                try rfl
              case kDa3 =>
              go_simp
              refine wpMix_load (.int .i64 (u : Int)) rfl (fun w' hS => ?yD4) ?kD4
              case yD4 =>
                go_simp
                rw [HUW.out]
              case kD4 =>
              go_simp
              refine wpMix_load ?vDd5 rfl (fun w' hS => ?yDd5) ?kDd5
              case yDd5 =>
                obtain ⟨g0, g1, g2, g3, g4, g5, g6, g7, g8, g9, _⟩ := hS
                go_simp
                try rfl
              case kDd5 =>
              go_simp
              refine wpMix_load ?vDd6 rfl (fun w' hS => ?yDd6) ?kDd6
              case yDd6 =>
                obtain ⟨g0, g1, g2, g3, g4, g5, g6, g7, g8, g9, _⟩ := hS
                go_simp
                try rfl
              case kDd6 =>
              go_simp
              refine wpMix_load ?vDd7 rfl (fun w' hS => ?yDd7) ?kDd7
              case yDd7 =>
                obtain ⟨g0, g1, g2, g3, g4, g5, g6, g7, g8, g9, _⟩ := hS
                go_simp
                try rfl
              case kDd7 =>
              go_simp
              refine wpMix_load ?vDd8 rfl (fun w' hS => ?yDd8) ?kDd8
              case yDd8 =>
                obtain ⟨g0, g1, g2, g3, g4, g5, g6, g7, g8, g9, _⟩ := hS
                go_simp
                try rfl
              case kDd8 =>
              go_simp
              refine wpMix_load ?vDd9 rfl (fun w' hS => ?yDd9) ?kDd9
              case yDd9 =>
                obtain ⟨g0, g1, g2, g3, g4, g5, g6, g7, g8, g9, _⟩ := hS
                go_simp
                try rfl
              case kDd9 =>
              go_simp
              refine wpMix_load ?vDd10 rfl (fun w' hS => ?yDd10) ?kDd10
              case yDd10 =>
                obtain ⟨g0, g1, g2, g3, g4, g5, g6, g7, g8, g9, _⟩ := hS
                go_simp
                try rfl
              case kDd10 =>
              go_simp
              refine wpMix_keep rfl ?_
              go_wp2_with fail
              refine (mcmp_any x y wr.drew).mono ?_
              rintro e w2 ⟨rfl, hb2⟩
              have hb2 : Below wr.heap.size wr w2 := (Below.refl _ wr).drew.trans hb2
              refine ⟨HC.out.below hb2, ?_⟩
              have HB2 := Lib.hid (HBR.out.trans (hb2.mono HBR.out.size))
              rw [← HCV.out]
              clear hb2
              refine wpMix_load ?vDb12 rfl (fun w' hS => ?yDb12) ?kDb12
              case yDb12 =>
                obtain _ := hS
                go_simp
                try rfl
              case kDb12 =>
              go_simp
              refine wpMix_load ?vDb13 rfl (fun w' hS => ?yDb13) ?kDb13
              case yDb13 =>
                obtain _ := hS
                go_simp
                try rfl
              case kDb13 =>
              go_simp
              refine wpMix_nil ?_
              simp only [opsAt, List.filterMap_nil, List.getElem?_toArray]
              go_wp2
              refine NoPanic.normal ?_
              go_wp2_with fail
              try rw [← HAD.out]
              first | go_roundw | refine ⟨?rel, ?measure⟩
              case rel => exact ⟨q + 1, by go_num, rfl, by omega, by omega, HB2.out⟩
              case measure => simp [intOf]; omega
            · have hkm2 : k = m := by omega
              subst hkm2
              have HB := Lib.hid hB
              have hlt' : decide ((k : Int) < (k : Int)) = false := by simp
              have he2 : (mid : Int) + (k : Int) - (k : Int) = (mid : Int) := by omega
              have qa : decide ((a : Int) < (k : Int)) = true := by simp; omega
              have hmm : decide ((mid : Int) < (mid : Int)) = false := by simp
              by_cases hkk : k < mid
              · have qk : decide ((k : Int) < (mid : Int)) = true := by simp; omega
                have hI := HI.out a k mid wr (by omega) ham hkk (by omega) (HR.out.below hB)
                have HI2 := Lib.hid hI
                clear hB hI
                go_wp2_with fail
                refine HI2.out.mono ?_
                rintro e w2 ⟨rfl, hb2⟩
                have HB2 := Lib.hid (HB.out.trans (hb2.mono HB.out.size))
                clear hb2
                go_wp2
                refine bodyPost_end (results_none rfl _ _ _) rfl ⟨rfl, HB2.out⟩
              · have qk : decide ((k : Int) < (mid : Int)) = false := by simp; omega
                clear hB
                go_wp2
                refine bodyPost_end (results_none rfl _ _ _) rfl ⟨rfl, HB.out⟩

end Go.Proofs.Ytlgdminpkkhejaa
