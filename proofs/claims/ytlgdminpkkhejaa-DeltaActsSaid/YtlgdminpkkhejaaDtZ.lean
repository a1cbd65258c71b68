/-
  The walk of slices.SortStableFunc over moves that are in order: nothing is written.
  Conditions: the moves lie in memory, in order; there are at most 10^6.
-/
import Derived.Test.YtlgdminpkkhejaaDtY
namespace Go.Proofs.Ytlgdminpkkhejaa
open Go.RowKit

set_option maxHeartbeats 3200000 in
set_option maxRecDepth 100000 in
theorem stable_any (l : List Mv) (A : Option Addr) (c n : Nat) (w : World) (hn : l.length = n) (hl : n ≤ 1000000) (hs : SrtV l) (h : Row w (Lt w.heap.size) A (flt mvC l)) :
    Calls Try.prog 40 #[.slice A n c, .int .i64 n, .func (.func 31) #[] #[]] w (Done w) := by
  have HN := Lib.hid hn
  have HS := Lib.hid hs
  have HR := Lib.hid h
  clear hn hs h
  go_enter Try.func40, Try.ntmps40
  go_wp2_with fail
  go_loopw [7, 8] (fun i j wr => ∃ a b : Nat, i = .int .i64 a ∧ j = .int .i64 b ∧ b = a + 20 ∧ a ≤ n ∧ Below w.heap.size w wr) (fun i _ _ => n - (intOf i).toNat)
  case atStart => exact ⟨0, 20, rfl, rfl, rfl, by omega, Below.refl _ _⟩
  case round =>
    obtain ⟨a, b, rfl, rfl, hb, han, hB⟩ := hrel
    by_cases hlt : b ≤ n
    · have hlt' : decide ((b : Int) ≤ (n : Int)) = true := by simp; omega
      have HI := Lib.hid (isort_any l A c n a b wr HN.out hl HS.out (by omega) hlt (HR.out.below hB))
      have HB := Lib.hid hB
      have HBE := Lib.hid hb
      clear hB hb
      go_wp2_with fail
      refine HI.out.mono ?_
      rintro e w2 ⟨rfl, hb2⟩
      have HB2 := Lib.hid (HB.out.trans (hb2.mono HB.out.size))
      clear hb2
      go_wp2_with fail
      first | go_roundw | refine ⟨?rel, ?measure⟩
      case rel => exact ⟨b, b + 20, rfl, by go_num, rfl, hlt, HB2.out⟩
      case measure => have := HBE.out; simp [intOf]; omega
    · have hlt' : decide ((b : Int) ≤ (n : Int)) = false := by simp; omega
      have HI := Lib.hid (isort_any l A c n a n wr HN.out hl HS.out han (Nat.le_refl _) (HR.out.below hB))
      have HB := Lib.hid hB
      clear hB hb
      go_wp2_with fail
      refine HI.out.mono ?_
      rintro e w2 ⟨rfl, hb2⟩
      have HB2 := Lib.hid (HB.out.trans (hb2.mono HB.out.size))
      clear hb2 HI HB hlt' hlt
      go_wp2_with fail
      go_loopw [6] (fun i wr => ∃ z : Nat, i = .int .i64 z ∧ 20 ≤ z ∧ z ≤ 2000000 ∧ Below w.heap.size w wr) (fun i _ => 2000001 - (intOf i).toNat)
      case atStart => exact ⟨20, rfl, by omega, by omega, HB2.out⟩
      case round =>
        obtain ⟨z, rfl, hz1, hz2, hB⟩ := hrel
        by_cases hzn : z < n
        · have hzn' : decide ((z : Int) < (n : Int)) = true := by simp; omega
          have HB := Lib.hid hB
          obtain ⟨w3, hw3⟩ : ∃ w3, w3 = wr := ⟨_, rfl⟩
          rw [← hw3] at HB ⊢
          clear hB hw3 HB2
          go_wp2_with fail
          go_loopw [7, 8] (fun i j wr => ∃ a b : Nat, i = .int .i64 a ∧ j = .int .i64 b ∧ b = a + 2 * z ∧ a ≤ n ∧ Below w.heap.size w wr) (fun i _ _ => n - (intOf i).toNat)
          case atStart => exact ⟨0, 2 * z, rfl, by go_num, by omega, by omega, HB.out⟩
          case round =>
            obtain ⟨a, b, rfl, rfl, hb, han, hB⟩ := hrel
            have hma : (a : Int) + (z : Int) = ((a + z : Nat) : Int) := by omega
            obtain ⟨m, hm⟩ : ∃ m, m = a + z := ⟨_, rfl⟩
            rw [← hm] at hma
            by_cases hlt : b ≤ n
            · have hlt' : decide ((b : Int) ≤ (n : Int)) = true := by simp; omega
              have HI := Lib.hid (symm_any l A c n HN.out hl HS.out (b - a) a m b wr (Nat.le_refl _) (by omega) (by omega) hlt (HR.out.below hB))
              have HBR := Lib.hid hB
              have HBE := Lib.hid hb
              clear hB hb hm
              go_wp2_with fail
              refine HI.out.mono ?_
              rintro e w2 ⟨rfl, hb2⟩
              have HB2 := Lib.hid (HBR.out.trans (hb2.mono HBR.out.size))
              clear hb2 hma
              go_wp2_with fail
              first | go_roundw | refine ⟨?rel, ?measure⟩
              case rel => exact ⟨b, b + 2 * z, rfl, by go_num, rfl, hlt, HB2.out⟩
              case measure => have := HBE.out; simp [intOf]; omega
            · have hlt' : decide ((b : Int) ≤ (n : Int)) = false := by simp; omega
              by_cases hmn : m < n
              · have hmn' : decide ((m : Int) < (n : Int)) = true := by simp; omega
                have HI := Lib.hid (symm_any l A c n HN.out hl HS.out (n - a) a m n wr (Nat.le_refl _) (by omega) hmn (Nat.le_refl _) (HR.out.below hB))
                have HBR := Lib.hid hB
                clear hB hb hm
                go_wp2_with fail
                refine HI.out.mono ?_
                rintro e w2 ⟨rfl, hb2⟩
                have HB2 := Lib.hid (HBR.out.trans (hb2.mono HBR.out.size))
                clear hb2 hma
                go_wp2_with fail
                first | go_roundw | refine ⟨?rel, ?measure⟩
                case rel => exact ⟨z * 2, by go_num, by omega, by omega, HB2.out⟩
                case measure => simp [intOf]; omega
              · have hmn' : decide ((m : Int) < (n : Int)) = false := by simp; omega
                have HBR := Lib.hid hB
                clear hB hb hm
                go_wp2_with fail
                first | go_roundw | refine ⟨?rel, ?measure⟩
                case rel => exact ⟨z * 2, by go_num, by omega, by omega, HBR.out⟩
                case measure => simp [intOf]; omega
        · have hzn' : decide ((z : Int) < (n : Int)) = false := by simp; omega
          have HB := Lib.hid hB
          clear hB
          go_wp2
          refine bodyPost_end (results_none rfl _ _ _) rfl ⟨rfl, HB.out⟩
set_option maxHeartbeats 3200000 in
set_option maxRecDepth 100000 in
theorem stab_any (l : List Mv) (A : Option Addr) (c : Nat) (w : World) (hl : l.length ≤ 1000000) (hs : SrtV l) (h : Row w (Lt w.heap.size) A (flt mvC l)) :
    Calls Try.prog 30 #[.slice A l.length c, .func (.func 31) #[] #[]] w (Done w) := by
  have HI := Lib.hid (stable_any l A c l.length w rfl hl hs h)
  obtain ⟨n, hn⟩ : ∃ n, n = l.length := ⟨_, rfl⟩
  rw [← hn] at HI ⊢
  clear hn hs h hl
  go_enter Try.func30, Try.ntmps30
  go_wp2_with fail
  refine HI.out.mono ?_
  rintro e w2 ⟨rfl, hb2⟩
  have HB2 := Lib.hid hb2
  clear hb2
  go_wp2
  refine bodyPost_end (results_none rfl _ _ _) rfl ⟨rfl, HB2.out⟩
end Go.Proofs.Ytlgdminpkkhejaa
