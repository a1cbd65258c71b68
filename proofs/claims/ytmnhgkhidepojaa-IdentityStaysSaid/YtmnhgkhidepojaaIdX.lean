/-
  The walk of recompilelaw05.IdentityStays.
  Conditions: the numbers that came in lie in memory.
-/
import Derived.Test.YtmnhgkhidepojaaIdW
import Derived.Test.YtmnhgkhidepojaaIdQ
namespace Go.Proofs.Ytmnhgkhidepojaa
open Go.RowKit

set_option maxHeartbeats 1600000 in
set_option maxRecDepth 100000 in
theorem stays_all (xs : List Int) (TA : Option Addr) (tc : Nat) (w : World) (hA : Row w (Lt w.heap.size) TA (xs.map (Value.int .i64))) (hf : ∀ x ∈ xs, -9223372036854775808 ≤ x ∧ x ≤ 9223372036854775807) :
    Calls Try.prog 4 #[.slice TA xs.length tc] w fun e w' => e = .returned (.bool true) ∧ Below w.heap.size w w' := by
  by_cases hfew : xs.length ≤ 400
  · have hr := roll_any xs TA tc w hA hfew hf
    obtain ⟨m, hm⟩ : ∃ m, m = xs.length := ⟨_, rfl⟩
    rw [← hm] at hr hfew ⊢
    have HR := Lib.hid hr
    have HL := Lib.hid (light_any m TA tc w)
    have hd0 : decide (m ≤ 400) = true := by simpa using hfew
    clear hr hA hf hm
    go_enter Try.func4, Try.ntmps4
    go_wp2_with fail
    refine HL.out.mono ?_
    rintro e w1 ⟨rfl, rfl⟩
    rw [hd0]
    clear HL hd0
    go_wp2_with fail
    refine HR.out.mono ?_
    rintro e w1 ⟨rfl, hD1, hb1⟩
    have hdl := hD1.lt
    have hb2 : Below w1.heap.size w1 (w1.alloc (.cells #[.int .i64 1, .slice none 0 0] 29)) := (Below.refl _ _).alloc (Nat.le_refl _) _
    have ha2 := alloc1 w1 (.cells #[.int .i64 1, .slice none 0 0] 29)
    have HD2 := Lib.hid (hD1.below hb2)
    have HB2 := Lib.hid (hb1.trans (hb2.mono hb1.size))
    have HA2 := Lib.hid ha2
    clear HR hD1 hb1 hb2 ha2
    go_wp2_with fail
    obtain ⟨w2, hw2⟩ : ∃ w2, w2 = w1.alloc (.cells #[.int .i64 1, .slice none 0 0] 29) := ⟨_, rfl⟩
    rw [← hw2] at HD2 HB2 HA2 ⊢
    have HS2 := Lib.hid (show w2.heap.size = w1.heap.size + 1 by rw [hw2]; simp)
    clear hw2
    refine (next_any 8 w.heap.size xs _ (by decide) (by decide) HD2.out).mono ?_
    rintro e w3 ⟨kn, hkn, rfl, hD3, hK3⟩
    have hs2 := HS2.out
    have hs3 := hK3.size
    have HD3 := Lib.hid hD3
    have HA3 := Lib.hid (hK3.heap HA2.out (by omega))
    have HB3 : Hid (Below w.heap.size w w3) := Lib.hid ⟨hK3.os.trans HB2.out.os, hK3.tape.trans HB2.out.tape, hK3.output.trans HB2.out.output, Nat.le_trans HB2.out.size hK3.size, fun b hb => (hK3.block b (by omega) (by omega)).trans (HB2.out.block b hb)⟩
    clear hD3 hK3 HD2 HB2 HA2
    go_wp2_with fail
    go_loopw [6, 5] (fun kv lv wr => ∃ (k : Nat) (n : Int) (X : List Idn) (A : Option Addr) (c p : Nat), kv = .int .i64 k ∧ lv = .int .i64 (n - 1) ∧ k ≤ 7 ∧ n + 8 * k ≤ 57 ∧ p = X.length ∧ p ≤ 8 ∧ Chk n X ∧ (A = none → c = 0) ∧
      wr.heap[w1.heap.size]? = some (.cells #[.int .i64 n, .slice A p c] 29 (0, 0)) ∧ Row wr (Fr (w1.heap.size + 1) wr.heap.size) A (flt idC X) ∧ DiceAt wr w.heap.size xs ∧ Below w.heap.size w wr) (fun kv _ _ => (intOf kv).toNat)
    case atStart =>
      exact ⟨kn, 1, [], none, 0, 0, rfl, rfl, by omega, by omega, rfl, by omega, ⟨by decide, by decide, (fun y h => by cases h), .nil, .nil⟩, fun _ => rfl, HA3.out, Row.nil _ _ _, HD3.out, HB3.out⟩
    case round =>
      clear HD3 HA3 HB3
      obtain ⟨k, n, X, A, c, p, rfl, rfl, hk7, hnk, hp, hp8, hC, hAc, hX, hrow, hD, hB⟩ := hrel
      have hsz := hB.size
      have hlx := lt_of_heap hX
      have HP := Lib.hid hp
      have HC := Lib.hid hC
      have HAC := Lib.hid hAc
      have HX := Lib.hid hX
      have HROW := Lib.hid hrow
      have HD := Lib.hid hD
      have HB := Lib.hid hB
      clear hp hC hAc hX hrow hD hB
      by_cases hlt : 0 < k
      · go_wp2_with fail
        refine (items_any w.heap.size xs wr HD.out).mono ?_
        rintro e w4 ⟨l, LA, lc, rfl, hM, hLA, hlo, hD4, hK4⟩
        have hs4 := hK4.size
        have HM := Lib.hid hM
        have HX4 := Lib.hid (hK4.heap HX.out (by omega))
        have HROW4 := Lib.hid (HROW.out.keep (hK4.kept fun b hb => ⟨hb.2, fun e => by have := hb.1; omega⟩))
        have HD4 := Lib.hid hD4
        have HB4 : Hid (Below w.heap.size w w4) := Lib.hid ⟨hK4.os.trans HB.out.os, hK4.tape.trans HB.out.tape, hK4.output.trans HB.out.output, Nat.le_trans HB.out.size hK4.size, fun b hb => (hK4.block b (by omega) (by omega)).trans (HB.out.block b hb)⟩
        have HLR : Hid (Row w4 (Lt w4.heap.size) LA (flt itC l)) := Lib.hid (Row.ofOwn hlo fun g hg h3 h4 => h4)
        have x0 : w4.cell? ⟨w1.heap.size, 0, none⟩ = some (.int .i64 n) := (Lib.cell_of_heap HX4.out _).trans rfl
        have x1 : w4.cell? ⟨w1.heap.size, 1, none⟩ = some (.slice A p c) := (Lib.cell_of_heap HX4.out _).trans rfl
        obtain ⟨q, hq⟩ : ∃ q, q = l.length := ⟨_, rfl⟩
        have hq8 : q ≤ 8 := by rw [hq]; exact hM.2.1
        rw [← hq]
        have HQ := Lib.hid hq
        clear hM hlo hD4 hK4 HX HROW HD HB hq hLA
        go_wp2_with fail
        have hu := update_any n X l A LA c lc w4 HAC.out (by rw [← HP.out]; omega) (by rw [← HQ.out]; omega) (HROW4.out.more fun b hb => by have := hb.2; unfold Lt; omega) HLR.out
        rw [← HP.out, ← HQ.out] at hu
        refine hu.mono ?_
        rintro e w5 ⟨mm, Y, YA, yc, eno, rfl, hYA, hYrow, hup, hb5⟩
        have hln : n + l.length ≤ top := by rw [← HQ.out]; unfold top; omega
        obtain ⟨rfl, hmm, hyp, hys⟩ := upd_ok hup HC.out HM.out.1 hln
        have hnx : nextOf n X l ≤ n + 8 := by
          unfold nextOf
          have := zeros_le (ids1 X l)
          rw [ids1_length, ← HQ.out] at this
          omega
        have hntop : nextOf n X l ≤ top := by unfold top; omega
        have hck := upd_chk HC.out HM.out.1 hntop hyp hys
        have hyl : Y.length = q := by rw [upd_len hyp, HQ.out]
        have hag := upd_again HC.out HM.out.1 hntop hyp hys
        have hge : n ≤ nextOf n X l := by unfold nextOf; omega
        rw [hyl]
        obtain ⟨nm, hnm⟩ : ∃ nm, nm = nextOf n X l := ⟨_, rfl⟩
        rw [← hnm] at hmm hnx hck hag hge
        subst hmm
        have hs5 := hb5.size
        have hb6 : Below w5.heap.size w5 (w5.alloc (.cells #[.int .i64 mm, .slice YA q yc] 29)) := (Below.refl _ _).alloc (Nat.le_refl _) _
        have ha6 := alloc1 w5 (.cells #[.int .i64 mm, .slice YA q yc] 29)
        obtain ⟨w6, hw6⟩ : ∃ w6, w6 = w5.alloc (.cells #[.int .i64 mm, .slice YA q yc] 29) := ⟨_, rfl⟩
        rw [← hw6] at hb6 ha6
        have HS6 := Lib.hid (show w6.heap.size = w5.heap.size + 1 by rw [hw6]; simp)
        have hb46 := hb5.trans (hb6.mono hs5)
        have HW6 := Lib.hid hw6
        have HHP := Lib.hid hyp
        have HCK := Lib.hid hck
        have HAG := Lib.hid hag
        have HYL := Lib.hid hyl
        have HYA := Lib.hid hYA
        have HYR := Lib.hid ((hYrow.keep ((kept_below hb6).sub fun b hb => hb.2)).more (S' := fun b => w4.heap.size ≤ b ∧ b < w5.heap.size) fun b hb => hb)
        have HX6 := Lib.hid ((hb46.block _ (by omega)).trans HX4.out)
        have HA6 := Lib.hid ha6
        have HB46 := Lib.hid hb46
        clear hup hln hnm hyp hys hck hyl hag hYA hYrow hb5 hb6 ha6 hb46 hw6 hu x0 x1 hntop
        go_wp2_with fail
        rw [← HW6.out]
        have hs6 := HS6.out
        have hu2 := update_any mm Y l YA LA yc lc w6 HYA.out (by rw [HYL.out]; omega) (by rw [← HQ.out]; omega) (HYR.out.more fun b hb => by have := hb.2; unfold Lt; omega) ((HLR.out.keep (kept_below HB46.out)).more fun b hb => by unfold Lt at hb ⊢; omega)
        rw [HYL.out, ← HQ.out] at hu2
        refine hu2.mono ?_
        rintro e w7 ⟨m2, Z, ZA, zc, eno, rfl, hZA, hZrow, hup2, hb7⟩
        obtain ⟨rfl, rfl, rfl⟩ := hup2.unique HAG.out
        rw [HYL.out]
        have hs7 := hb7.size
        have hb8 : Below w7.heap.size w7 (w7.alloc (.cells #[.int .i64 m2, .slice ZA q zc] 29)) := (Below.refl _ _).alloc (Nat.le_refl _) _
        have ha8 := alloc1 w7 (.cells #[.int .i64 m2, .slice ZA q zc] 29)
        obtain ⟨w8, hw8⟩ : ∃ w8, w8 = w7.alloc (.cells #[.int .i64 m2, .slice ZA q zc] 29) := ⟨_, rfl⟩
        rw [← hw8] at hb8 ha8
        have HS8 := Lib.hid (show w8.heap.size = w7.heap.size + 1 by rw [hw8]; simp)
        have hs8 := HS8.out
        have hb68 := hb7.trans (hb8.mono hs7)
        have HB48 := Lib.hid (HB46.out.trans (hb68.mono (by omega)))
        have hA8 := (hb68.block _ (by omega)).trans HA6.out
        have hX8 := (hb68.block _ (by omega)).trans HX6.out
        have hYR8 := HYR.out.keep ((kept_below hb68).sub fun b hb => by unfold Lt; have := hb.2; omega)
        have hZR8 := hZrow.keep ((kept_below hb8).sub fun b hb => hb.2)
        have HA8 := Lib.hid hA8
        have HX8 := Lib.hid hX8
        have HZ8 := Lib.hid ha8
        have HYR8 := Lib.hid hYR8
        have HZR8 := Lib.hid hZR8
        have HW8 := Lib.hid hw8
        have y0 : w7.cell? ⟨w5.heap.size, 0, none⟩ = some (.int .i64 m2) := (Lib.cell_of_heap ((hb7.block _ (by omega)).trans HA6.out) _).trans rfl
        have y1 : w7.cell? ⟨w5.heap.size, 1, none⟩ = some (.slice YA q yc) := (Lib.cell_of_heap ((hb7.block _ (by omega)).trans HA6.out) _).trans rfl
        have hl57 : w5.heap.size < w7.heap.size := by omega
        clear hup2 hZA hZrow hb7 hb8 ha8 hb68 hA8 hX8 hYR8 hZR8 hw8 hu2 HA6 HX6
        go_wp2_with fail
        rw [← HW8.out]
        have hck8 := check_any m2 Z YA yc w8 (by rw [HYL.out]; omega) (HYR8.out.more fun b hb => by have := hb.2; unfold Lt; omega)
        rw [HYL.out] at hck8
        refine hck8.mono ?_
        rintro e w9 ⟨r, rfl, hr9, hb9⟩
        obtain rfl : r = true := hr9.2 HCK.out
        have hs9 := hb9.size
        have HA9 := Lib.hid ((hb9.block _ (by omega)).trans HA8.out)
        have HX9 := Lib.hid ((hb9.block _ (by omega)).trans HX8.out)
        have hZ9 := (hb9.block _ (by omega)).trans HZ8.out
        have HYR9 := Lib.hid (HYR8.out.keep ((kept_below hb9).sub fun b hb => by unfold Lt; have := hb.2; omega))
        have HZR9 := Lib.hid (HZR8.out.keep ((kept_below hb9).sub fun b hb => by unfold Lt; have := hb.2; omega))
        have HB49 := Lib.hid (HB48.out.trans (hb9.mono (by omega)))
        have y0 : w9.cell? ⟨w5.heap.size, 0, none⟩ = some (.int .i64 m2) := (Lib.cell_of_heap HA9.out _).trans rfl
        have y1 : w9.cell? ⟨w5.heap.size, 1, none⟩ = some (.slice YA q yc) := (Lib.cell_of_heap HA9.out _).trans rfl
        have z0 : w9.cell? ⟨w7.heap.size, 0, none⟩ = some (.int .i64 m2) := (Lib.cell_of_heap hZ9 _).trans rfl
        have z1 : w9.cell? ⟨w7.heap.size, 1, none⟩ = some (.slice ZA q zc) := (Lib.cell_of_heap hZ9 _).trans rfl
        clear hr9 hb9 hZ9 hck8 HA8 HX8 HZ8 HYR8 HZR8
        go_wp2_with fail
        have hsm := same_any m2 m2 Z Z YA ZA yc zc w9 (by rw [HYL.out]; omega) (HYR9.out.more fun b hb => by have := hb.2; unfold Lt; omega) (HZR9.out.more fun b hb => by have := hb.2; unfold Lt; omega)
        rw [HYL.out] at hsm
        refine hsm.mono ?_
        rintro e wa ⟨r, rfl, hra, hba⟩
        obtain rfl : r = true := hra.2 ⟨rfl, rfl⟩
        have hsa := hba.size
        have HAa := Lib.hid ((hba.block _ (by omega)).trans HA9.out)
        have HXa := Lib.hid ((hba.block _ (by omega)).trans HX9.out)
        have HYRa := Lib.hid (HYR9.out.keep ((kept_below hba).sub fun b hb => by unfold Lt; have := hb.2; omega))
        have HB4a := Lib.hid (HB49.out.trans (hba.mono (by omega)))
        have y0 : wa.cell? ⟨w5.heap.size, 0, none⟩ = some (.int .i64 m2) := (Lib.cell_of_heap HAa.out _).trans rfl
        have y1 : wa.cell? ⟨w5.heap.size, 1, none⟩ = some (.slice YA q yc) := (Lib.cell_of_heap HAa.out _).trans rfl
        have x0 : wa.cell? ⟨w1.heap.size, 0, none⟩ = some (.int .i64 n) := (Lib.cell_of_heap HXa.out _).trans rfl
        have x1 : wa.cell? ⟨w1.heap.size, 1, none⟩ = some (.slice A p c) := (Lib.cell_of_heap HXa.out _).trans rfl
        have hge2 : ¬ m2 < n := by omega
        clear hra hba hsm HA9 HX9 HYR9 HZR9 z0 z1
        go_wp2_with fail
        clear x0 x1 y0 y1
        go_loopw [12] (fun i wr => ∃ i' : Nat, i' ≤ p ∧ i = .int .i64 i' ∧ Below wa.heap.size wa wr) (fun i _ => p - (intOf i).toNat)
        case atStart => exact ⟨0, by omega, rfl, Below.refl _ _⟩
        case round =>
          obtain ⟨i, hip, rfl, hB⟩ := hrel
          have hszi := hB.size
          have hXi := (hB.block _ (by omega)).trans HXa.out
          have hAi := (hB.block _ (by omega)).trans HAa.out
          have x0 : wr.cell? ⟨w1.heap.size, 0, none⟩ = some (.int .i64 n) := (Lib.cell_of_heap hXi _).trans rfl
          have x1 : wr.cell? ⟨w1.heap.size, 1, none⟩ = some (.slice A p c) := (Lib.cell_of_heap hXi _).trans rfl
          have y0 : wr.cell? ⟨w5.heap.size, 0, none⟩ = some (.int .i64 m2) := (Lib.cell_of_heap hAi _).trans rfl
          have y1 : wr.cell? ⟨w5.heap.size, 1, none⟩ = some (.slice YA q yc) := (Lib.cell_of_heap hAi _).trans rfl
          have hlw1 : w1.heap.size < wr.heap.size := by omega
          have hlw5 : w5.heap.size < wr.heap.size := by omega
          have HBi := Lib.hid hB
          clear hXi hAi hB
          by_cases hlt2 : i < p
          · obtain ⟨a, ha⟩ : ∃ a, X[i]? = some a := ⟨_, List.getElem?_eq_getElem (by rw [← HP.out]; exact hlt2)⟩
            obtain ⟨ad, rfl, hS, a0, a1, a2, a3⟩ := id_at (HROW4.out.keep ((kept_below (HB4a.out.trans (HBi.out.mono (by omega)))).sub fun b hb => by have := hb.2; unfold Lt; omega)) ha
            have HAI := Lib.hid ha
            have hb1 : Below wr.heap.size wr (wr.alloc (.cells #[.int .i64 a.id, sv a.it.md, sv a.it.nm, sv a.it.sh] 39)) := (Below.refl _ _).alloc (Nat.le_refl _) _
            have hal := alloc1 wr (.cells #[.int .i64 a.id, sv a.it.md, sv a.it.nm, sv a.it.sh] 39)
            obtain ⟨wb, hwb⟩ : ∃ wb, wb = wr.alloc (.cells #[.int .i64 a.id, sv a.it.md, sv a.it.nm, sv a.it.sh] 39) := ⟨_, rfl⟩
            rw [← hwb] at hb1 hal
            have HBb := Lib.hid (HBi.out.trans (hb1.mono hszi))
            have HALb := Lib.hid hal
            have HSb := Lib.hid (show wb.heap.size = wr.heap.size + 1 by rw [hwb]; simp)
            have HWb := Lib.hid hwb
            clear ha hb1 hal hwb
            go_wp2_with fail
            rw [← HWb.out]
            have hsb := HSb.out
            have hfi := find_any m2 Z YA yc a.it.md a.it.nm wb (by rw [HYL.out]; omega) ((HYRa.out.keep ((kept_below HBb.out).sub fun b hb => by have := hb.2; unfold Lt; omega)).more fun b hb => by have := hb.2; unfold Lt; omega)
            rw [HYL.out] at hfi
            refine hfi.mono ?_
            rintro e wc ⟨rfl, hbc⟩
            have hbcw := HBb.out.trans (hbc.mono (by omega))
            have r0 : wc.cell? ⟨wr.heap.size, 0, none⟩ = some (.int .i64 a.id) := (Lib.cell_of_heap ((hbc.block _ (by omega)).trans HALb.out) _).trans rfl
            have HBc := Lib.hid hbcw
            have hfn : fnd Z (a.it.md, a.it.nm) = none ∨ fnd Z (a.it.md, a.it.nm) = some a.id := by
              cases hf : fnd Z (a.it.md, a.it.nm) with
              | none => exact .inl rfl
              | some v =>
                have := upd_keeps HC.out HHP.out (List.mem_of_getElem? HAI.out) (i := v) hf
                rw [this]
                exact .inr rfl
            clear hbc hbcw hfi a0 a1 a2 a3 x0 x1 y0 y1
            rcases hfn with hfn | hfn
            · rw [hfn]
              go_wp2
              go_roundw
              case rel => exact ⟨i + 1, by omega, by go_num, HBc.out⟩
              case measure => simp [intOf]; omega
            · rw [hfn]
              go_wp2
              go_roundw
              case rel => exact ⟨i + 1, by omega, by go_num, HBc.out⟩
              case measure => simp [intOf]; omega
          · obtain rfl : i = p := by omega
            obtain ⟨wd, rfl⟩ : ∃ wd, wd = wr := ⟨_, rfl⟩
            clear x0 y0 y1
            go_wp2_with fail
            go_loopw [16] (fun i wr => ∃ j : Nat, j ≤ q ∧ i = .int .i64 j ∧ Below wd.heap.size wd wr) (fun i _ => q - (intOf i).toNat)
            case atStart => exact ⟨0, by omega, rfl, Below.refl _ _⟩
            case round =>
              clear x1
              obtain ⟨j, hjq, rfl, hB⟩ := hrel
              have hszj := hB.size
              have hbaj := HBi.out.trans (hB.mono hszi)
              have hXj := (hbaj.block _ (by omega)).trans HXa.out
              have hAj := (hbaj.block _ (by omega)).trans HAa.out
              have x0 : wr.cell? ⟨w1.heap.size, 0, none⟩ = some (.int .i64 n) := (Lib.cell_of_heap hXj _).trans rfl
              have x1 : wr.cell? ⟨w1.heap.size, 1, none⟩ = some (.slice A i c) := (Lib.cell_of_heap hXj _).trans rfl
              have y0 : wr.cell? ⟨w5.heap.size, 0, none⟩ = some (.int .i64 m2) := (Lib.cell_of_heap hAj _).trans rfl
              have y1 : wr.cell? ⟨w5.heap.size, 1, none⟩ = some (.slice YA q yc) := (Lib.cell_of_heap hAj _).trans rfl
              have hlw1 : w1.heap.size < wr.heap.size := by omega
              have hlw5 : w5.heap.size < wr.heap.size := by omega
              by_cases hlt3 : j < q
              · obtain ⟨a, ha⟩ : ∃ a, Z[j]? = some a := ⟨_, List.getElem?_eq_getElem (by rw [HYL.out]; exact hlt3)⟩
                obtain ⟨ad, rfl, hS, a0, a1, a2, a3⟩ := id_at (HYRa.out.keep ((kept_below hbaj).sub fun b hb => by have := hb.2; unfold Lt; omega)) ha
                have HBj := Lib.hid hB
                clear ha hB hbaj hXj hAj
                by_cases hge3 : n ≤ a.id
                · have h4 : ¬ a.id ≤ n - 1 := by omega
                  go_wp2
                  go_roundw
                  case rel => exact ⟨j + 1, by omega, by go_num, HBj.out⟩
                  case measure => simp [intOf]; omega
                · go_wp2
                  go_roundw
                  case rel => exact ⟨j + 1, by omega, by go_num, HBj.out⟩
                  case measure => simp [intOf]; omega
              · obtain rfl : j = q := by omega
                have f0 : wr.frozen? ⟨w1.heap.size, 0, none⟩ = false := Lib.frozen_of_heap hXj 0
                have f1 : wr.frozen? ⟨w1.heap.size, 1, none⟩ = false := Lib.frozen_of_heap hXj 1
                have hn5 := HCK.out.1
                have hXs := setCell_heap (o := 1) (v := .slice YA j yc) (setCell_heap (o := 0) (v := .int .i64 m2) hXj)
                have hks : Kp (fun y => y = w1.heap.size) wr ((wr.setCell ⟨w1.heap.size, 0, none⟩ (.int .i64 m2)).setCell ⟨w1.heap.size, 1, none⟩ (.slice YA j yc)) := Kp.setCell (M := fun y => y = w1.heap.size) (Kp.setCell (M := fun y => y = w1.heap.size) (Kp.refl _ _) (fun _ => rfl) _) (fun _ => rfl) _
                have hb4j := HB4a.out.trans (hbaj.mono (by omega))
                have hdj := HD4.out.below hb4j
                have HDS := Lib.hid (hdj.keep hks (fun y hy => by omega))
                have HXS := Lib.hid hXs
                have hbw := HB4.out.trans (hb4j.mono HB4.out.size)
                have HBS : Hid (Below w.heap.size w ((wr.setCell ⟨w1.heap.size, 0, none⟩ (.int .i64 m2)).setCell ⟨w1.heap.size, 1, none⟩ (.slice YA j yc))) := Lib.hid ⟨hks.os.trans hbw.os, hks.tape.trans hbw.tape, hks.output.trans hbw.output, Nat.le_trans hbw.size hks.size, fun b hb => (hks.block b (by omega) (by omega)).trans (hbw.block b hb)⟩
                have hrj := (HYRa.out.keep ((kept_below hbaj).sub fun b hb => by have := hb.2; unfold Lt; omega))
                have HRS := Lib.hid ((hrj.keep (hks.kept fun b hb => ⟨by have := hb.2; omega, by have := hb.1; omega⟩)).more (S' := Fr (w1.heap.size + 1) ((wr.setCell ⟨w1.heap.size, 0, none⟩ (.int .i64 m2)).setCell ⟨w1.heap.size, 1, none⟩ (.slice YA j yc)).heap.size) fun b hb => ⟨by have := hb.1; omega, by rw [sizeSet, sizeSet]; have := hb.2; omega⟩)
                clear hXs hks hb4j hdj hbw hrj hXj hAj hbaj hB
                go_wp2
                go_roundw
                case rel =>
                  exact ⟨k - 1, m2, Z, YA, yc, j, by go_num, by trivial, by omega, by omega, HYL.out.symm, by omega, HCK.out, HYA.out, HXS.out, HRS.out, HDS.out, HBS.out⟩
                case measure => simp [intOf]; omega
      · obtain rfl : k = 0 := by omega
        go_wp2_with fail
        refine (awake_any wr).mono ?_
        rintro e wz ⟨rfl, hbz⟩
        have HBz := Lib.hid (HB.out.trans (hbz.mono hsz))
        clear hbz
        go_wp2
        go_ret
        exact ⟨rfl, HBz.out⟩
  · obtain ⟨m, hm⟩ : ∃ m, m = xs.length := ⟨_, rfl⟩
    rw [← hm] at hfew ⊢
    have HL := Lib.hid (light_any m TA tc w)
    have hd0 : decide (m ≤ 400) = false := by simpa using hfew
    clear hA hf hm
    go_enter Try.func4, Try.ntmps4
    go_wp2_with fail
    refine HL.out.mono ?_
    rintro e w1 ⟨rfl, rfl⟩
    rw [hd0]
    clear HL hd0
    go_wp2_with fail
    refine (awake_any w).mono ?_
    rintro e wz ⟨rfl, hbz⟩
    have HBz := Lib.hid hbz
    clear hbz
    go_wp2
    go_ret
    exact ⟨rfl, HBz.out⟩
end Go.Proofs.Ytmnhgkhidepojaa
