/-
  The walk of law06's ModulesLeast.
  Conditions: the numbers lie in memory.
-/
import Derived.Test.YtcliegpofhjpcaaMdI
namespace Go.Proofs.Ytcliegpofhjpcaa
open Go.RowKit

def backSl (g k cap : Nat) : Value := .slice (some ⟨g, k * 3, none⟩) (4 - k) (cap - k)
theorem turn_at {α : Type} {L : List α} (hl : L.length = 4) {k i : Nat} (hk : k < 4) (hi : i < 4) : (L.drop k ++ L.take k)[i]? = L[(i + k) % 4]? := by
  by_cases hc : i < 4 - k
  · rw [List.getElem?_append_left (by rw [List.length_drop, hl]; exact hc), List.getElem?_drop, Nat.mod_eq_of_lt (by omega), Nat.add_comm]
  · rw [List.getElem?_append_right (by rw [List.length_drop, hl]; omega), List.length_drop, hl, List.getElem?_take_of_lt (by omega)]
    congr 1
    omega
theorem back_at {w : World} {S : Nat → Prop} {g k : Nat} {vs : List FV} (h : Row w S (some ⟨g, 0, none⟩) (flt fvC vs)) : Row w S (some ⟨g, k * 3, none⟩) (flt fvC (vs.drop k)) := by
  rw [← flt_drop fvC_len]
  refine h.sub _ fun ad e _ => ?_
  obtain rfl := Option.some.inj e
  cases k with
  | zero => rfl
  | succ n => simp [Addr.add]
set_option maxHeartbeats 1600000 in
set_option maxRecDepth 100000 in
theorem least_heavy (m : Nat) (TA : Option Addr) (tc : Nat) (turn : Int) (w : World) (hfew : ¬ m ≤ 400) :
    Calls Try.prog 4 #[.slice TA m tc, .int .i64 turn] w fun e w' => e = .returned (.bool true) ∧ Below w.heap.size w w' := by
  have HL := Lib.hid (light_any m TA tc w)
  have hd0 : decide (m ≤ 400) = false := by simpa using hfew
  go_enter Try.func4, Try.ntmps4
  go_wp2_with fail
  refine HL.out.mono ?_
  rintro e w1 ⟨rfl, rfl⟩
  rw [hd0]
  clear HL hd0
  go_wp2_with fail
  refine (awake_any w).mono ?_
  rintro e wz ⟨rfl, hbz⟩
  have HBz := Lib.hid hbz
  clear hbz
  go_wp2
  go_ret
  exact ⟨rfl, HBz.out⟩

set_option maxHeartbeats 1600000 in
set_option maxRecDepth 100000 in
theorem least_light (xs : List Int) (TA : Option Addr) (tc : Nat) (turn : Int) (w : World) (hA : Row w (Lt w.heap.size) TA (xs.map (Value.int .i64))) (hfew : xs.length ≤ 400) (hf : ∀ x ∈ xs, -9223372036854775808 ≤ x ∧ x ≤ 9223372036854775807) (ht1 : -9223372036854775808 ≤ turn) (ht2 : turn ≤ 9223372036854775807) :
    Calls Try.prog 4 #[.slice TA xs.length tc, .int .i64 turn] w fun e w' => e = .returned (.bool true) ∧ Below w.heap.size w w' := by
  obtain ⟨m, hm⟩ : ∃ m, m = xs.length := ⟨_, rfl⟩
  have HL := Lib.hid (light_any m TA tc w)
  have HRO := Lib.hid (roll_any xs TA tc w hA hfew hf)
  rw [← hm] at HRO hfew ⊢
  have hd0 : decide (m ≤ 400) = true := by simpa using hfew
  obtain ⟨i0, hi, hz0, hz1, hz2⟩ := info_parts infoS
  obtain ⟨i3, fi, fz0, fz1, fz2⟩ := info_parts infoF
  obtain ⟨i4, li, lz0, lz1, lz2⟩ := info_parts infoB2
  clear hA hf hm
  go_enter Try.func4, Try.ntmps4
  go_wp2_with fail
  refine HL.out.mono ?_
  rintro e w1 ⟨rfl, rfl⟩
  rw [hd0]
  clear HL hd0
  go_wp2_with fail
  refine HRO.out.mono ?_
  rintro e w1 ⟨rfl, hd1, hb1⟩
  have hdl1 := hd1.lt
  obtain ⟨wl, hwl⟩ : ∃ wl, wl = w1.alloc (.cells #[.string ⟨#[97]⟩, .string ⟨#[98]⟩, .string ⟨#[99]⟩, .string ⟨#[100]⟩] 9) := ⟨_, rfl⟩
  have hb1l : Below w1.heap.size w1 wl := by rw [hwl]; exact (Below.refl _ _).alloc (Nat.le_refl _) _
  have hal := alloc1 w1 (.cells #[.string ⟨#[97]⟩, .string ⟨#[98]⟩, .string ⟨#[99]⟩, .string ⟨#[100]⟩] 9)
  rw [← hwl] at hal
  have hs1l := lt_of_heap hal
  have HAL := Lib.hid hal
  have HD1 := Lib.hid (hd1.below hb1l)
  have HBL := Lib.hid (hb1.trans (hb1l.mono hb1.size))
  have HWL := Lib.hid hwl
  clear hd1 hb1 HRO hal hb1l hwl
  go_wp2_with fail
  rw [← HWL.out]
  clear HWL
  go_loopw [6, 33] (fun lv i wr => ∃ (k : Nat) (l : List Face), k ≤ 4 ∧ i = .int .i64 k ∧ LsAt wl.heap.size wr lv l ∧ Four k l ∧ DiceAt wr w.heap.size xs ∧ Kp (fun y => y = w.heap.size) wl wr) (fun _ i _ => 4 - (intOf i).toNat)
  case atStart => exact ⟨0, [], by omega, rfl, ⟨[], World.ownsRow_nil _ _ _ _, rfl, fun i x f h => by cases h⟩, ⟨rfl, by simp, by simp⟩, HD1.out, Kp.refl _ _⟩
  case round =>
    obtain ⟨k, l, hk4, rfl, hLs, hFo, hDr, hKr⟩ := hrel
    have HLS := Lib.hid hLs
    have HFO := Lib.hid hFo
    have HDR := Lib.hid hDr
    have HKR := Lib.hid hKr
    have hsr := hKr.size
    clear hLs hFo hDr hKr HD1
    by_cases hlt : k < 4
    · skip
      obtain ⟨md, hmd⟩ : ∃ md, names4[k]? = some md := ⟨_, List.getElem?_eq_getElem hlt⟩
      have cm : wr.cell? ⟨w1.heap.size, k, none⟩ = some (sv md) := (Lib.cell_of_heap (HKR.out.heap HAL.out (by omega)) k).trans (by
        have : names4.map sv = [.string ⟨#[97]⟩, .string ⟨#[98]⟩, .string ⟨#[99]⟩, .string ⟨#[100]⟩] := rfl
        rw [List.getElem?_toArray, ← this, List.getElem?_map, hmd]
        rfl)
      have HMD := Lib.hid hmd
      clear hmd
      have hik : (0 : Int) ≤ (k : Int) ∧ (k : Int) < 4 := ⟨by omega, by omega⟩
      go_wp2_with fail
      obtain ⟨w2, rfl⟩ : ∃ w2, w2 = wr := ⟨_, rfl⟩
      have hf2 : FaceAt w2 w.heap.size xs md (w2.alloc (.cells #[sv md, .slice none 0 0, .slice none 0 0] 37)) (.slice none 0 0) [] (.slice none 0 0) [] :=
        ⟨HDR.out.below ((Below.refl _ _).alloc (Nat.le_refl _) _), by omega, (Kp.refl _ _).alloc _, alloc1 _ _, World.ownsRow_nil _ _ _ _, World.ownsRow_nil _ _ _ _, fun g h => by cases h⟩
      refine (next_any 3 w.heap.size xs _ (by decide) (by decide) hf2.dice).mono ?_
      rintro e w3 ⟨k3, hk3, rfl, hD3, hK3⟩
      have HF3 := Lib.hid (hf2.thrown hD3 hK3)
      clear hf2 hD3 hK3 cm
      go_wp2_with fail
      go_loopw [10] (fun i wr => ∃ (k : Nat) (own : List (List UInt8)) (ov : Value), i = .int .i64 k ∧ k + own.length ≤ 2 ∧ (∀ s ∈ own, s.length ≤ 1) ∧ FaceAt w2 w.heap.size xs md wr ov own (.slice none 0 0) []) (fun i _ => (intOf i).toNat)
      case atStart => exact ⟨k3, [], _, rfl, by simp; omega, by simp, HF3.out⟩
      case round =>
        obtain ⟨k1, own, ov, rfl, hko, hso, hfa⟩ := hrel
        have HSO := Lib.hid hso
        have HFA := Lib.hid hfa
        have HOL : Hid (own.length ≤ 2) := Lib.hid (by omega)
        clear hso hfa HF3
        by_cases hk : 0 < k1
        · go_wp2_with fail
          have hfb := lt_of_heap HFA.out.blk
          refine wp_region_mix (AtCells [(⟨w2.heap.size, 1, none⟩, ov)]) [(true, 0), (true, 1), (true, 2), (false, 3), (false, 4), (false, 5), (false, 6)] [7, 8] (by kernel_rfl) (by kernel_rfl) ?sa ?ha
          case sa => exact FaceAt.c1 (HFA.out.below (Below.refl _ wr).drew)
          case ha =>
          simp only [mixAt, List.filterMap_cons, List.filterMap_nil, List.getElem?_toArray, List.getElem?_cons_succ, List.getElem?_cons_zero, Option.map_some]
          refine wpMix_load ?vaa0 rfl (fun w' hS => ?yaa0) ?kaa0
          case yaa0 =>
            obtain ⟨g0, _⟩ := hS
            go_simp
            try rfl
          case kaa0 =>
          go_simp
          refine wpMix_load ?vaa1 rfl (fun w' hS => ?yaa1) ?kaa1
          case yaa1 =>
            obtain ⟨g0, _⟩ := hS
            go_simp
            try rfl
          case kaa1 =>
          go_simp
          refine wpMix_load ?vaa2 rfl (fun w' hS => ?yaa2) ?kaa2
          case yaa2 =>
            obtain ⟨g0, _⟩ := hS
            go_simp
            try rfl
          case kaa2 =>
          go_simp
          refine wpMix_keep rfl ?_
          go_wp2_with fail
          have hb7 : Below wr.heap.size wr (wr.alloc (.cells #[.string ⟨#[120]⟩, .string ⟨#[121]⟩, .string ⟨#[122]⟩, .string ⟨#[119]⟩] 9)).drew := ((Below.refl _ _).alloc (Nat.le_refl _) _).drew
          have hf7 := HFA.out.below hb7
          refine ⟨FaceAt.c1 hf7, ?_⟩
          have HF7 := Lib.hid hf7
          clear hb7 hf7
          refine wpMix_keep rfl ?_
          go_wp2_with fail
          refine (of_any [[120], [121], [122], [119]] (some ⟨wr.heap.size, 0, none⟩) 4 w.heap.size xs (wr.alloc (.cells #[.string ⟨#[120]⟩, .string ⟨#[121]⟩, .string ⟨#[122]⟩, .string ⟨#[119]⟩] 9)).drew (by decide) (by decide) HF7.out.dice (row_lit wr _ _ [[120], [121], [122], [119]] rfl w.heap.size (by have := HFA.out.low; omega))).mono ?_
          rintro e w8 ⟨s, hs, rfl, hD8, hK8⟩
          have HSL : Hid (s ∈ [[120], [121], [122], [119]]) := Lib.hid hs
          have hf8 := HF7.out.thrown hD8 hK8
          refine ⟨FaceAt.c1 hf8, ?_⟩
          have HF8 := Lib.hid hf8
          clear hs hD8 hK8 hf8 HF7
          refine wpMix_keep rfl ?_
          go_wp2_with fail
          have hf9 := HF8.out.below ((Below.refl _ w8).alloc (Nat.le_refl _) (.cells #[sv s] 9))
          refine ⟨FaceAt.c1 hf9, ?_⟩
          have hnew : ∀ j u, [sv s][j]? = some u → (w8.alloc (.cells #[sv s] 9)).cell? ((⟨w8.heap.size, 0, none⟩ : Addr).add j) = some u := World.news_of_block (cs := #[sv s]) (alloc1 w8 _)
          have hz9 : (w8.alloc (.cells #[sv s] 9)).heap.size = w8.heap.size + 1 := by simp
          have HF9 := Lib.hid hf9
          clear hf9
          refine wpMix_keep rfl ?_
          have hs9 := HF9.out.kp.size
          refine wp_append_lies _ _ _ 35 rfl w2.heap.size 9 i0 _ 1 16 Try.underlying35 hi hz0 hz1 hz2 rfl (by omega) ov own.length (own.map sv) rfl (FaceAt.ro HF9.out) ⟨w8.heap.size, 0, none⟩ 1 1 [sv s] rfl rfl hnew ?d2a (by omega) ?d3a ?d4a ?d5a _ rfl ?_
          case d2a =>
            intro u hu
            rw [List.mem_singleton.1 hu]
            rfl
          case d3a => unfold maxLen; omega
          case d4a => omega
          case d5a => exact hs9
          intro vg vcap w9 hown9 hgr hat _
          have hfx := FaceAt.own_step HF9.out hown9 hgr hat
          have hblk9 := HF9.out.still (.inl rfl) hgr
          have c9 : w9.cell? ⟨w2.heap.size, 1, none⟩ = some ov := (Lib.cell_of_heap hblk9 _).trans rfl
          have f9 : w9.frozen? ⟨w2.heap.size, 1, none⟩ = false := Lib.frozen_of_heap hblk9 1
          refine ⟨⟨c9, trivial⟩, ?_⟩
          have HFX := Lib.hid hfx
          clear hfx hown9 hgr hat hblk9 hnew hz9 hs9 hfb
          refine wpMix_nil ?_
          simp only [opsAt, List.filterMap_cons, List.filterMap_nil, List.getElem?_toArray, List.getElem?_cons_succ, List.getElem?_cons_zero]
          go_wp2
          refine NoPanic.normal ?_
          go_wp2_with fail
          go_roundw
          case rel =>
            refine ⟨k1 - 1, own ++ [s], _, by go_num, by simp; omega, ?_, HFX.out⟩
            intro s' hs'
            rcases List.mem_append.1 hs' with h | h
            · exact HSO.out s' h
            · rw [List.mem_singleton.1 h]
              have := HSL.out
              simp only [List.mem_cons, List.not_mem_nil, or_false] at this
              rcases this with e | e | e | e <;> rw [e] <;> decide
          case measure => simp [intOf]; omega
        · go_wp2_with fail
          clear hk
          refine (next_any 3 w.heap.size xs wr (by decide) (by decide) HFA.out.dice).mono ?_
          rintro e w4 ⟨q4, hq4, rfl, hD4, hK4⟩
          have HF4 := Lib.hid (HFA.out.thrown hD4 hK4)
          clear hD4 hK4 HFA
          go_wp2_with fail
          go_loopw [11] (fun i wr => ∃ (k : Nat) (pub : List (List UInt8)) (pv : Value), i = .int .i64 k ∧ k + pub.length ≤ 2 ∧ (∀ s ∈ pub, s ∈ names4) ∧ FaceAt w2 w.heap.size xs md wr ov own pv pub) (fun i _ => (intOf i).toNat)
          case atStart => exact ⟨q4, [], _, rfl, by simp; omega, by simp, HF4.out⟩
          case round =>
            obtain ⟨k2, pub, pv, rfl, hkp, hsp, hfa⟩ := hrel
            have HFA := Lib.hid hfa
            have HSP := Lib.hid hsp
            clear hfa HF4 hsp
            by_cases hk : 0 < k2
            · go_wp2_with fail
              have hfb := lt_of_heap HFA.out.blk
              refine wp_region_mix (AtCells [(⟨w2.heap.size, 2, none⟩, pv)]) [(true, 0), (true, 1), (true, 2), (false, 3), (false, 4), (false, 5), (false, 6)] [7, 8] (by kernel_rfl) (by kernel_rfl) ?sb ?hb
              case sb => exact FaceAt.c2 (HFA.out.below (Below.refl _ wr).drew)
              case hb =>
              simp only [mixAt, List.filterMap_cons, List.filterMap_nil, List.getElem?_toArray, List.getElem?_cons_succ, List.getElem?_cons_zero, Option.map_some]
              refine wpMix_load ?vba0 rfl (fun w' hS => ?yba0) ?kba0
              case yba0 =>
                obtain ⟨g0, _⟩ := hS
                go_simp
                try rfl
              case kba0 =>
              go_simp
              refine wpMix_load ?vba1 rfl (fun w' hS => ?yba1) ?kba1
              case yba1 =>
                obtain ⟨g0, _⟩ := hS
                go_simp
                try rfl
              case kba1 =>
              go_simp
              refine wpMix_load ?vba2 rfl (fun w' hS => ?yba2) ?kba2
              case yba2 =>
                obtain ⟨g0, _⟩ := hS
                go_simp
                try rfl
              case kba2 =>
              go_simp
              refine wpMix_keep rfl ?_
              go_wp2_with fail
              have hb7 : Below wr.heap.size wr (wr.alloc (.cells #[.string ⟨#[97]⟩, .string ⟨#[98]⟩, .string ⟨#[99]⟩, .string ⟨#[100]⟩] 9)).drew := ((Below.refl _ _).alloc (Nat.le_refl _) _).drew
              have hf7 := HFA.out.below hb7
              refine ⟨FaceAt.c2 hf7, ?_⟩
              have HF7 := Lib.hid hf7
              clear hb7 hf7
              refine wpMix_keep rfl ?_
              go_wp2_with fail
              refine (of_any [[97], [98], [99], [100]] (some ⟨wr.heap.size, 0, none⟩) 4 w.heap.size xs (wr.alloc (.cells #[.string ⟨#[97]⟩, .string ⟨#[98]⟩, .string ⟨#[99]⟩, .string ⟨#[100]⟩] 9)).drew (by decide) (by decide) HF7.out.dice (row_lit wr _ _ [[97], [98], [99], [100]] rfl w.heap.size (by have := HFA.out.low; omega))).mono ?_
              rintro e w8 ⟨s, hs, rfl, hD8, hK8⟩
              have HSL : Hid (s ∈ [[97], [98], [99], [100]]) := Lib.hid hs
              have hf8 := HF7.out.thrown hD8 hK8
              refine ⟨FaceAt.c2 hf8, ?_⟩
              have HF8 := Lib.hid hf8
              clear hs hD8 hK8 hf8 HF7
              refine wpMix_keep rfl ?_
              go_wp2_with fail
              have hf9 := HF8.out.below ((Below.refl _ w8).alloc (Nat.le_refl _) (.cells #[sv s] 9))
              refine ⟨FaceAt.c2 hf9, ?_⟩
              have hnew : ∀ j u, [sv s][j]? = some u → (w8.alloc (.cells #[sv s] 9)).cell? ((⟨w8.heap.size, 0, none⟩ : Addr).add j) = some u := World.news_of_block (cs := #[sv s]) (alloc1 w8 _)
              have hz9 : (w8.alloc (.cells #[sv s] 9)).heap.size = w8.heap.size + 1 := by simp
              have HF9 := Lib.hid hf9
              clear hf9
              refine wpMix_keep rfl ?_
              have hs9 := HF9.out.kp.size
              refine wp_append_lies _ _ _ 35 rfl w2.heap.size 9 i0 _ 1 16 Try.underlying35 hi hz0 hz1 hz2 rfl (by omega) pv pub.length (pub.map sv) rfl (FaceAt.rp HF9.out) ⟨w8.heap.size, 0, none⟩ 1 1 [sv s] rfl rfl hnew ?d2b (by omega) ?d3b ?d4b ?d5b _ rfl ?_
              case d2b =>
                intro u hu
                rw [List.mem_singleton.1 hu]
                rfl
              case d3b => unfold maxLen; omega
              case d4b => omega
              case d5b => exact hs9
              intro vg vcap w9 hown9 hgr hat _
              have hfx := FaceAt.pub_step HF9.out hown9 hgr hat
              have hblk9 := HF9.out.still (.inr rfl) hgr
              have c9 : w9.cell? ⟨w2.heap.size, 2, none⟩ = some pv := (Lib.cell_of_heap hblk9 _).trans rfl
              have f9 : w9.frozen? ⟨w2.heap.size, 2, none⟩ = false := Lib.frozen_of_heap hblk9 2
              refine ⟨⟨c9, trivial⟩, ?_⟩
              have HFX := Lib.hid hfx
              clear hfx hown9 hgr hat hblk9 hnew hz9 hs9 hfb
              refine wpMix_nil ?_
              simp only [opsAt, List.filterMap_cons, List.filterMap_nil, List.getElem?_toArray, List.getElem?_cons_succ, List.getElem?_cons_zero]
              go_wp2
              refine NoPanic.normal ?_
              go_wp2_with fail
              go_roundw
              case rel =>
                refine ⟨k2 - 1, pub ++ [s], _, by go_num, by simp; omega, ?_, HFX.out⟩
                intro s' hs'
                rcases List.mem_append.1 hs' with h | h
                · exact HSP.out s' h
                · rw [List.mem_singleton.1 h]
                  exact HSL.out
              case measure => simp [intOf]; omega
            · have e0 := HFA.out.cells
              obtain ⟨e0, e1, e2, _⟩ := e0
              obtain ⟨vs, hown, hvl, hvs⟩ := HLS.out
              have hs4 := HFA.out.kp.size
              have hown' := (HFA.out.kp.own hown fun g hg e => by have := (hown.lt g hg).1; omega).alloc (.cells #[sv md, ov, pv] 37)
              have HOWN := Lib.hid hown
              have HOWNA := Lib.hid hown'
              have HVL := Lib.hid hvl
              have HVS := Lib.hid hvs
              have hnew : ∀ j u, [sv md, ov, pv][j]? = some u → (wr.alloc (.cells #[sv md, ov, pv] 37)).cell? ((⟨wr.heap.size, 0, none⟩ : Addr).add j) = some u := World.news_of_block (cs := #[sv md, ov, pv]) (alloc1 wr _)
              have HNEW := Lib.hid hnew
              have HL4 := Lib.hid (HFO.out.len hk4)
              clear hown hvl hvs hnew hown'
              go_wp2_with (at_builtin; refine wpList_append_lies _ rfl _ _ 22 rfl wl.heap.size 37 i3 _ 3 64 Try.underlying22 fi fz0 fz1 fz2 rfl (by omega) u6 l.length (flt fvC vs) rfl HOWNA.out ⟨wr.heap.size, 0, none⟩ 1 1 [sv md, ov, pv] rfl rfl HNEW.out ?d2 (by omega) ?d3 ?d4 ?d5 _ rfl ?_)
              case d2 =>
                obtain ⟨A1, c1, rfl, _⟩ := own_slice HFA.out.ro
                obtain ⟨A2, c2, rfl, _⟩ := own_slice HFA.out.rp
                exact ⟨rfl, rfl, rfl⟩
              case d3 => have := HL4.out; unfold maxLen; omega
              case d4 => have := HL4.out; omega
              case d5 => omega
              intro vg vcap w5 hown5 hgr hat _
              have hltv := HOWN.out.lt
              have hk5 : Kp (fun y => u6.ownBlock = some y) wr w5 := ((Kp.refl _ _).alloc (.cells #[sv md, ov, pv] 37)).grown hgr fun r hr _ => hr
              have hls := LsAt.step (l := l) (f := ⟨md, own, pub⟩) (by omega) (by omega) HFA.out HVL.out HVS.out (fun g hg => (hltv g hg).2) hown5 hk5 (hat.imp id fun h => by rw [h]; simp)
              have HLSN := Lib.hid hls
              have HD5 := Lib.hid (HFA.out.dice.keep hk5 fun y e => by have := (hltv y e).1; omega)
              have HK5 := Lib.hid ((HKR.out.trans (M1 := fun y => y = w.heap.size ∨ u6.ownBlock = some y) ((HFA.out.kp.more (M' := fun y => y = w.heap.size ∨ u6.ownBlock = some y) fun y _ e => .inl e).trans (M1 := fun y => u6.ownBlock = some y) hk5 fun y _ e => .inr e) fun y hy e => by
                rcases e with e | e
                · exact e
                · have := (hltv y e).1
                  omega))
              have HPL : Hid (pub.length ≤ 2) := Lib.hid (by omega)
              clear hown5 hgr hat hltv hk5 hls HOWN HOWNA HNEW HVL HVS HFA HLS e0 e1 e2 hs4
              go_wp2_with fail
              go_roundw
              case rel => exact ⟨k + 1, l ++ [⟨md, own, pub⟩], by omega, by go_num, HLSN.out, HFO.out.snoc HMD.out ⟨HOL.out, HSO.out⟩ ⟨HPL.out, HSP.out⟩, HD5.out, HK5.out⟩
              case measure => simp [intOf]; omega
    · obtain rfl : k = 4 := by omega
      obtain ⟨wr0, rfl⟩ : ∃ w0, w0 = wr := ⟨_, rfl⟩
      have hl4 := HFO.out.len (Nat.le_refl _)
      obtain ⟨vs, hown, hvl, hvs⟩ := HLS.out
      rw [hl4] at hown
      obtain ⟨g, cap, rfl, hgb, hgl⟩ := hown.form (by omega)
      have hFl : FcsV wr0 (Lt wr0.heap.size) (.slice (some ⟨g, 0, none⟩) 4 cap) l := ⟨_, cap, vs, by rw [hl4], hvl, Row.ofOwn hown fun r _ _ h => h, fun i u f' h1 h2 => ⟨(hvs i u f' h1 h2).1, (hvs i u f' h1 h2).2.1.more fun b hb => hb.1.2, (hvs i u f' h1 h2).2.2.more fun b hb => hb.1.2⟩⟩
      have HAA := Lib.hid (all_any l _ wr0 HFO.out.small.fit hFl)
      have HB0 := Lib.hid (kp_below HBL.out HKR.out fun y e => by omega)
      have hs0 := HB0.out.size
      have HOWN := Lib.hid hown
      have hcap := (own_le hown).1
      have HVL := Lib.hid hvl
      have HVS := Lib.hid hvs
      have HL4 := Lib.hid hl4
      clear hown hvl hvs hFl hl4 HLS HDR HKR HBL HAL
      go_wp2_with fail
      refine HAA.out.mono ?_
      rintro e wa ⟨R, g1, rfl, hR, hO, hba⟩
      have hRl : R.length = 4 := by rw [hR.inv.len, HL4.out]
      rw [hRl]
      have hsa := hba.size
      have HRB : Hid (∀ (i : Nat) (x : List Key), R[i]? = some x → x.length ≤ 100000000) := Lib.hid fun i x h => outs_sm hR HFO.out.small.fit h
      have HR := Lib.hid hR
      have HO := Lib.hid hO
      have HRL := Lib.hid hRl
      have HOWNA := Lib.hid ((Kp.ofBelow (M := fun _ => False) hba).own HOWN.out fun _ _ e => e)
      have HKA := Lib.hid (kept_below hba)
      have HBA := Lib.hid (HB0.out.trans (hba.mono hs0))
      have HINV := Lib.hid hR.inv
      clear hR hO hba hRl HOWN HB0 HAA
      go_wp2_with fail
      go_loopw [13] (fun i wr => ∃ q : Nat, q ≤ 4 ∧ i = .int .i64 q ∧ Below wa.heap.size wa wr) (fun i _ => 4 - (intOf i).toNat)
      case atStart => exact ⟨0, by omega, rfl, Below.refl _ _⟩
      case round =>
        obtain ⟨q, hq4, rfl, hB⟩ := hrel
        have HB := Lib.hid hB
        have hsw := hB.size
        clear hB
        by_cases hq : q < 4
        · skip
          obtain ⟨f, hf⟩ : ∃ f, l[q]? = some f := ⟨_, List.getElem?_eq_getElem (by rw [HL4.out]; exact hq)⟩
          obtain ⟨x, hx⟩ : ∃ x, vs[q]? = some x := ⟨_, List.getElem?_eq_getElem (by rw [HVL.out, HL4.out]; exact hq)⟩
          obtain ⟨hxm, ⟨OA, oc, hov, hor⟩, PA, pc, hpv, hpr⟩ := HVS.out q x f hx hf
          have hp2 := (HFO.out.pub f (List.mem_of_getElem? hf)).1
          have hpn := (HFO.out.pub f (List.mem_of_getElem? hf)).2
          obtain ⟨p, hp⟩ : ∃ p, p = f.pub.length := ⟨_, rfl⟩
          obtain ⟨o, ho⟩ : ∃ o, o = f.own.length := ⟨_, rfl⟩
          rw [← hp] at hpv hp2
          rw [← ho] at hov
          have c0 := (HOWNA.out.cellAt (q * 3) (by omega)).trans (flt_at (j := 0) fvC_len hx rfl)
          have c1 := (HOWNA.out.cellAt (q * 3 + 1) (by omega)).trans (flt_at (j := 1) fvC_len hx rfl)
          have c2 := (HOWNA.out.cellAt (q * 3 + 2) (by omega)).trans (flt_at (j := 2) fvC_len hx rfl)
          rw [hxm] at c0
          rw [hov] at c1
          rw [hpv] at c2
          have HFQ := Lib.hid hf
          have HPN := Lib.hid hpn
          have HP := Lib.hid hp
          have HO1 := Lib.hid ho
          have HC0 := Lib.hid c0
          have HC1 := Lib.hid c1
          have HC2 := Lib.hid c2
          have HOR := Lib.hid ((hor.more (S' := Lt wr0.heap.size) fun b hb => hb.1.2).keep HKA.out)
          have HPR := Lib.hid ((hpr.more (S' := Lt wr0.heap.size) fun b hb => hb.1.2).keep HKA.out)
          clear hf hx hxm hov hor hpv hpr hpn hp ho c0 c1 c2
          have hiq : (0 : Int) ≤ (q : Int) ∧ (q : Int) < 4 := ⟨by omega, by omega⟩
          go_wp2_with fail
          go_loopw [14, 15] (fun ov i wr => ∃ j : Nat, j ≤ p ∧ i = .int .i64 j ∧ OthAt wr0.heap.size g1 wa wr ov (othersOf l R (f.pub.take j)) ∧ Below wa.heap.size wa wr) (fun _ i _ => p - (intOf i).toNat)
          case atStart => exact ⟨0, by omega, rfl, ⟨[], World.ownsRow_nil _ _ _ _, fun i u x h => by cases h⟩, HB.out⟩
          case round =>
            obtain ⟨j, hjp, rfl, ⟨os, hown, hvs⟩, hB1⟩ := hrel
            obtain ⟨z, hz⟩ : ∃ z, z = (othersOf l R (f.pub.take j)).length := ⟨_, rfl⟩
            have hz4 : z ≤ 4 := by
              rw [hz]
              refine Nat.le_trans (others_len _ _ _) ?_
              rw [List.length_take]
              omega
            rw [← hz] at hown
            obtain ⟨VA, vc, rfl, _⟩ := own_slice hown
            have c2 := (hB1.cell (block_lt_of_cell HC2.out)).trans HC2.out
            have hszj := hB1.size
            have HOWN := Lib.hid hown
            have HOV := Lib.hid hvs
            have HZ := Lib.hid hz
            have HB1 := Lib.hid hB1
            clear hown hvs hz hB1 HB
            by_cases hj : j < p
            · obtain ⟨mm, hmm⟩ : ∃ mm, f.pub[j]? = some mm := ⟨_, List.getElem?_eq_getElem (by rw [← HP.out]; exact hj)⟩
              obtain ⟨pd, hpa, _, p0⟩ := (HPR.out.keep ((kept_below HB1.out).sub fun b hb => by unfold Lt at hb ⊢; omega)).at_ (k := j) (u := sv mm) (by rw [List.getElem?_map, hmm]; rfl)
              subst hpa
              obtain ⟨t, ht⟩ := List.getElem?_of_mem (HPN.out mm (List.mem_of_getElem? hmm))
              have ht4 : t < 4 := (List.getElem?_eq_some_iff.1 ht).1
              obtain ⟨xt, hxt⟩ : ∃ xt, R[t]? = some xt := ⟨_, List.getElem?_eq_getElem (by rw [HRL.out]; exact ht4)⟩
              have hon := others_snoc l R (f.pub.take j) mm
              rw [HFO.out.fst ht, show f.pub.take j ++ [mm] = f.pub.take (j + 1) from (take_snoc hmm).symm] at hon
              simp only [getL_of hxt] at hon
              obtain ⟨vt, a0, _, hbd⟩ := HO.out.at_ hxt
              have hbd2 := hbd
              obtain ⟨XA, xc, rfl, _, _⟩ := hbd2
              have a1 := (HB1.out.cell (block_lt_of_cell a0)).trans a0
              obtain ⟨zt, hzt⟩ : ∃ zt, zt = xt.length := ⟨_, rfl⟩
              rw [← hzt] at a1 hbd
              have hij : (0 : Int) ≤ (j : Int) ∧ (j : Int) < (p : Int) := ⟨by omega, by omega⟩
              have HON := Lib.hid hon
              have HBD := Lib.hid hbd
              have HTM : Hid (names4[t]? = some mm) := Lib.hid ht
              clear hmm ht hon a0 hbd hxt hzt
              have h4 : (t = 0 ∧ mm = [97]) ∨ (t = 1 ∧ mm = [98]) ∨ (t = 2 ∧ mm = [99]) ∨ (t = 3 ∧ mm = [100]) := by
                have := HTM.out
                rcases (by omega : t = 0 ∨ t = 1 ∨ t = 2 ∨ t = 3) with rfl | rfl | rfl | rfl <;> cases this <;> simp
              rcases h4 with ⟨rfl, rfl⟩ | ⟨rfl, rfl⟩ | ⟨rfl, rfl⟩ | ⟨rfl, rfl⟩
              · skip
                have hbc : ((bs [97])[0]'(by decide)).toNat = 97 := rfl
                go_wp2_with (at_builtin; refine wpList_append_lies _ rfl _ _ 23 rfl wa.heap.size 33 i4 _ 1 24 Try.underlying23 li lz0 lz1 lz2 rfl (by omega) _ z os rfl (HOWN.out.alloc _) ⟨wr.heap.size, 0, none⟩ 1 1 [.slice XA zt xc] rfl rfl ?d1a ?d2a (by omega) ?d3a ?d4a ?d5a _ rfl ?_)
                case d1a => exact World.news_of_block (cs := #[.slice XA zt xc]) (alloc1 wr _)
                case d2a =>
                  intro u hu
                  rw [List.mem_singleton.1 hu]
                  rfl
                case d3a => unfold maxLen; omega
                case d4a => omega
                case d5a => simp; omega
                intro vg vcap w2' hown2 hgr hat _
                have hltv := HOWN.out.lt
                have HB2 : Hid (Below wa.heap.size wa w2') := Lib.hid ((HB1.out.alloc hszj (.cells #[.slice XA zt xc] 33)).grown hgr (by simp; omega) (fun r hr => (hltv r hr).1))
                have HOT : Hid (OthAt wr0.heap.size g1 wa w2' (.slice (some ⟨vg, 0, none⟩) (z + 1) vcap) (othersOf l R (f.pub.take (j + 1)))) := Lib.hid ⟨os ++ [.slice XA zt xc], by
                  rw [HON.out, List.length_append, ← HZ.out]
                  exact hown2, fun i u x hu hx => by
                  rw [HON.out] at hx
                  have hvl : os.length = z := by rw [HOWN.out.1, Nat.mul_one]
                  by_cases hiz : i < z
                  · rw [List.getElem?_append_left (by rw [hvl]; exact hiz)] at hu
                    rw [List.getElem?_append_left (by rw [← HZ.out]; exact hiz)] at hx
                    exact HOV.out i u x hu hx
                  · rw [List.getElem?_append_right (by rw [hvl]; omega), hvl] at hu
                    rw [List.getElem?_append_right (by rw [← HZ.out]; omega), ← HZ.out] at hx
                    obtain ⟨p1, e1⟩ := List.getElem?_eq_some_iff.1 hu
                    obtain ⟨p2, e2⟩ := List.getElem?_eq_some_iff.1 hx
                    simp at p1 p2
                    simp [p1] at e1 e2
                    subst e1
                    subst e2
                    exact HBD.out⟩
                clear hown2 hgr hat hltv
                go_wp2
                go_roundw
                case rel => exact ⟨j + 1, by omega, by go_num, HOT.out, HB2.out⟩
                case measure => simp [intOf]; omega
              · skip
                have hbc : ((bs [98])[0]'(by decide)).toNat = 98 := rfl
                go_wp2_with (at_builtin; refine wpList_append_lies _ rfl _ _ 23 rfl wa.heap.size 33 i4 _ 1 24 Try.underlying23 li lz0 lz1 lz2 rfl (by omega) _ z os rfl (HOWN.out.alloc _) ⟨wr.heap.size, 0, none⟩ 1 1 [.slice XA zt xc] rfl rfl ?d1b ?d2b (by omega) ?d3b ?d4b ?d5b _ rfl ?_)
                case d1b => exact World.news_of_block (cs := #[.slice XA zt xc]) (alloc1 wr _)
                case d2b =>
                  intro u hu
                  rw [List.mem_singleton.1 hu]
                  rfl
                case d3b => unfold maxLen; omega
                case d4b => omega
                case d5b => simp; omega
                intro vg vcap w2' hown2 hgr hat _
                have hltv := HOWN.out.lt
                have HB2 : Hid (Below wa.heap.size wa w2') := Lib.hid ((HB1.out.alloc hszj (.cells #[.slice XA zt xc] 33)).grown hgr (by simp; omega) (fun r hr => (hltv r hr).1))
                have HOT : Hid (OthAt wr0.heap.size g1 wa w2' (.slice (some ⟨vg, 0, none⟩) (z + 1) vcap) (othersOf l R (f.pub.take (j + 1)))) := Lib.hid ⟨os ++ [.slice XA zt xc], by
                  rw [HON.out, List.length_append, ← HZ.out]
                  exact hown2, fun i u x hu hx => by
                  rw [HON.out] at hx
                  have hvl : os.length = z := by rw [HOWN.out.1, Nat.mul_one]
                  by_cases hiz : i < z
                  · rw [List.getElem?_append_left (by rw [hvl]; exact hiz)] at hu
                    rw [List.getElem?_append_left (by rw [← HZ.out]; exact hiz)] at hx
                    exact HOV.out i u x hu hx
                  · rw [List.getElem?_append_right (by rw [hvl]; omega), hvl] at hu
                    rw [List.getElem?_append_right (by rw [← HZ.out]; omega), ← HZ.out] at hx
                    obtain ⟨p1, e1⟩ := List.getElem?_eq_some_iff.1 hu
                    obtain ⟨p2, e2⟩ := List.getElem?_eq_some_iff.1 hx
                    simp at p1 p2
                    simp [p1] at e1 e2
                    subst e1
                    subst e2
                    exact HBD.out⟩
                clear hown2 hgr hat hltv
                go_wp2
                go_roundw
                case rel => exact ⟨j + 1, by omega, by go_num, HOT.out, HB2.out⟩
                case measure => simp [intOf]; omega
              · skip
                have hbc : ((bs [99])[0]'(by decide)).toNat = 99 := rfl
                go_wp2_with (at_builtin; refine wpList_append_lies _ rfl _ _ 23 rfl wa.heap.size 33 i4 _ 1 24 Try.underlying23 li lz0 lz1 lz2 rfl (by omega) _ z os rfl (HOWN.out.alloc _) ⟨wr.heap.size, 0, none⟩ 1 1 [.slice XA zt xc] rfl rfl ?d1c ?d2c (by omega) ?d3c ?d4c ?d5c _ rfl ?_)
                case d1c => exact World.news_of_block (cs := #[.slice XA zt xc]) (alloc1 wr _)
                case d2c =>
                  intro u hu
                  rw [List.mem_singleton.1 hu]
                  rfl
                case d3c => unfold maxLen; omega
                case d4c => omega
                case d5c => simp; omega
                intro vg vcap w2' hown2 hgr hat _
                have hltv := HOWN.out.lt
                have HB2 : Hid (Below wa.heap.size wa w2') := Lib.hid ((HB1.out.alloc hszj (.cells #[.slice XA zt xc] 33)).grown hgr (by simp; omega) (fun r hr => (hltv r hr).1))
                have HOT : Hid (OthAt wr0.heap.size g1 wa w2' (.slice (some ⟨vg, 0, none⟩) (z + 1) vcap) (othersOf l R (f.pub.take (j + 1)))) := Lib.hid ⟨os ++ [.slice XA zt xc], by
                  rw [HON.out, List.length_append, ← HZ.out]
                  exact hown2, fun i u x hu hx => by
                  rw [HON.out] at hx
                  have hvl : os.length = z := by rw [HOWN.out.1, Nat.mul_one]
                  by_cases hiz : i < z
                  · rw [List.getElem?_append_left (by rw [hvl]; exact hiz)] at hu
                    rw [List.getElem?_append_left (by rw [← HZ.out]; exact hiz)] at hx
                    exact HOV.out i u x hu hx
                  · rw [List.getElem?_append_right (by rw [hvl]; omega), hvl] at hu
                    rw [List.getElem?_append_right (by rw [← HZ.out]; omega), ← HZ.out] at hx
                    obtain ⟨p1, e1⟩ := List.getElem?_eq_some_iff.1 hu
                    obtain ⟨p2, e2⟩ := List.getElem?_eq_some_iff.1 hx
                    simp at p1 p2
                    simp [p1] at e1 e2
                    subst e1
                    subst e2
                    exact HBD.out⟩
                clear hown2 hgr hat hltv
                go_wp2
                go_roundw
                case rel => exact ⟨j + 1, by omega, by go_num, HOT.out, HB2.out⟩
                case measure => simp [intOf]; omega
              · skip
                have hbc : ((bs [100])[0]'(by decide)).toNat = 100 := rfl
                go_wp2_with (at_builtin; refine wpList_append_lies _ rfl _ _ 23 rfl wa.heap.size 33 i4 _ 1 24 Try.underlying23 li lz0 lz1 lz2 rfl (by omega) _ z os rfl (HOWN.out.alloc _) ⟨wr.heap.size, 0, none⟩ 1 1 [.slice XA zt xc] rfl rfl ?d1d ?d2d (by omega) ?d3d ?d4d ?d5d _ rfl ?_)
                case d1d => exact World.news_of_block (cs := #[.slice XA zt xc]) (alloc1 wr _)
                case d2d =>
                  intro u hu
                  rw [List.mem_singleton.1 hu]
                  rfl
                case d3d => unfold maxLen; omega
                case d4d => omega
                case d5d => simp; omega
                intro vg vcap w2' hown2 hgr hat _
                have hltv := HOWN.out.lt
                have HB2 : Hid (Below wa.heap.size wa w2') := Lib.hid ((HB1.out.alloc hszj (.cells #[.slice XA zt xc] 33)).grown hgr (by simp; omega) (fun r hr => (hltv r hr).1))
                have HOT : Hid (OthAt wr0.heap.size g1 wa w2' (.slice (some ⟨vg, 0, none⟩) (z + 1) vcap) (othersOf l R (f.pub.take (j + 1)))) := Lib.hid ⟨os ++ [.slice XA zt xc], by
                  rw [HON.out, List.length_append, ← HZ.out]
                  exact hown2, fun i u x hu hx => by
                  rw [HON.out] at hx
                  have hvl : os.length = z := by rw [HOWN.out.1, Nat.mul_one]
                  by_cases hiz : i < z
                  · rw [List.getElem?_append_left (by rw [hvl]; exact hiz)] at hu
                    rw [List.getElem?_append_left (by rw [← HZ.out]; exact hiz)] at hx
                    exact HOV.out i u x hu hx
                  · rw [List.getElem?_append_right (by rw [hvl]; omega), hvl] at hu
                    rw [List.getElem?_append_right (by rw [← HZ.out]; omega), ← HZ.out] at hx
                    obtain ⟨p1, e1⟩ := List.getElem?_eq_some_iff.1 hu
                    obtain ⟨p2, e2⟩ := List.getElem?_eq_some_iff.1 hx
                    simp at p1 p2
                    simp [p1] at e1 e2
                    subst e1
                    subst e2
                    exact HBD.out⟩
                clear hown2 hgr hat hltv
                go_wp2
                go_roundw
                case rel => exact ⟨j + 1, by omega, by go_num, HOT.out, HB2.out⟩
                case measure => simp [intOf]; omega
            · obtain rfl : j = p := by omega
              have hz := HZ.out
              have hown := HOWN.out
              have hov := HOV.out
              rw [List.take_of_length_le (by rw [← HP.out]; exact Nat.le_refl _)] at hov hz
              have hoth : OthAt wr0.heap.size g1 wa wr (.slice VA z vc) (othersOf l R f.pub) := ⟨os, by rw [← hz]; exact hown, hov⟩
              have hbv := hoth.bdss HB1.out
              obtain ⟨y, hy⟩ : ∃ y, R[q]? = some y := ⟨_, List.getElem?_eq_getElem (by rw [HRL.out]; exact hq)⟩
              obtain ⟨vt, a0, _, XA, xc, rfl, _, hyr⟩ := HO.out.at_ hy
              obtain ⟨zy, hzy⟩ : ∃ zy, zy = y.length := ⟨_, rfl⟩
              rw [← hzy] at a0
              have hbd : Below wa.heap.size wa wr.drew := HB1.out.drew
              have hfit := HFO.out.small.fit
              have hfm := List.mem_of_getElem? HFQ.out
              have hst := step_any f.md f.own (othersOf l R f.pub) OA oc (.slice VA z vc) wr.drew (hfit.md f hfm) (hfit.own f hfm).2 (hfit.own f hfm).1 (Nat.le_trans (others_len _ _ _) (hfit.pub f hfm)) (fun x hx => by
                obtain ⟨mm, _, he⟩ := List.mem_filterMap.1 hx
                obtain ⟨jj, _, rfl⟩ := Option.map_eq_some_iff.1 he
                exact hfit.len HINV.out jj) (fun ks hn hk => Nat.le_trans (nodup_le2 hn fun x hx => HINV.out.univ_step HFQ.out (hk x hx)) hfit.all) ((HOR.out.keep ((kept_below hbd).sub fun b hb => by unfold Lt at hb ⊢; omega)).more fun b hb => by have := hbd.size; unfold Lt at hb ⊢; omega) ((hoth.bdss HB1.out).keep (kept_below (Below.refl _ wr).drew))
              rw [← HO1.out] at hst
              have HST := Lib.hid hst
              have HC : Hid (AtCells [(⟨g, q * 3, none⟩, sv f.md), (⟨g, q * 3 + 1, none⟩, .slice OA o oc), (⟨g1, q, none⟩, .slice XA zy xc)] wr.drew) := Lib.hid ⟨(hbd.cell (block_lt_of_cell HC0.out)).trans HC0.out, (hbd.cell (block_lt_of_cell HC1.out)).trans HC1.out, (hbd.cell (block_lt_of_cell a0)).trans a0, trivial⟩
              have HY := Lib.hid hy
              have HYR := Lib.hid (hyr.more (S' := Lt wa.heap.size) fun b hb => hb.1.2)
              have HZY := Lib.hid hzy
              have HBD := Lib.hid hbd
              clear hz hown hov hoth hy a0 hyr hzy hbd hfit hfm hst
              go_wp2_with fail
              refine wp_region_mix (AtCells [(⟨g, q * 3, none⟩, sv f.md), (⟨g, q * 3 + 1, none⟩, .slice OA o oc), (⟨g1, q, none⟩, .slice XA zy xc)]) [(true, 0), (true, 1), (true, 2), (true, 3), (true, 4), (true, 5), (true, 6), (true, 7), (true, 8), (true, 9), (true, 10), (true, 12), (true, 13), (true, 14), (true, 15), (false, 11), (false, 16), (true, 17)] [] (by kernel_rfl) (by kernel_rfl) ?sx ?hx
              case sx => exact HC.out
              case hx =>
              simp only [mixAt, List.filterMap_cons, List.filterMap_nil, List.getElem?_toArray, List.getElem?_cons_succ, List.getElem?_cons_zero, Option.map_some]
              refine wpMix_load ?vx0 rfl (fun w' hS => ?yx0) ?kx0
              case yx0 =>
                obtain ⟨g1', g2', g3', _⟩ := hS
                go_simp
                try rfl
              case kx0 =>
              go_simp
              refine wpMix_load ?vx1 rfl (fun w' hS => ?yx1) ?kx1
              case yx1 =>
                obtain ⟨g1', g2', g3', _⟩ := hS
                go_simp
                try rfl
              case kx1 =>
              go_simp
              refine wpMix_load ?vx2 rfl (fun w' hS => ?yx2) ?kx2
              case yx2 =>
                obtain ⟨g1', g2', g3', _⟩ := hS
                go_simp
                try rfl
              case kx2 =>
              go_simp
              refine wpMix_load ?vx3 rfl (fun w' hS => ?yx3) ?kx3
              case yx3 =>
                obtain ⟨g1', g2', g3', _⟩ := hS
                go_simp
                try rfl
              case kx3 =>
              go_simp
              refine wpMix_load ?vx4 rfl (fun w' hS => ?yx4) ?kx4
              case yx4 =>
                obtain ⟨g1', g2', g3', _⟩ := hS
                go_simp
                try rfl
              case kx4 =>
              go_simp
              refine wpMix_load ?vx5 rfl (fun w' hS => ?yx5) ?kx5
              case yx5 =>
                obtain ⟨g1', g2', g3', _⟩ := hS
                go_simp
                try rfl
              case kx5 =>
              go_simp
              refine wpMix_load ?vx6 rfl (fun w' hS => ?yx6) ?kx6
              case yx6 =>
                obtain ⟨g1', g2', g3', _⟩ := hS
                go_simp
                try rfl
              case kx6 =>
              go_simp
              refine wpMix_load ?vx7 rfl (fun w' hS => ?yx7) ?kx7
              case yx7 =>
                obtain ⟨g1', g2', g3', _⟩ := hS
                go_simp
                try rfl
              case kx7 =>
              go_simp
              refine wpMix_load ?vx8 rfl (fun w' hS => ?yx8) ?kx8
              case yx8 =>
                obtain ⟨g1', g2', g3', _⟩ := hS
                go_simp
                try rfl
              case kx8 =>
              go_simp
              refine wpMix_load ?vx9 rfl (fun w' hS => ?yx9) ?kx9
              case yx9 =>
                obtain ⟨g1', g2', g3', _⟩ := hS
                go_simp
                try rfl
              case kx9 =>
              go_simp
              refine wpMix_load ?vx10 rfl (fun w' hS => ?yx10) ?kx10
              case yx10 =>
                obtain ⟨g1', g2', g3', _⟩ := hS
                go_simp
                try rfl
              case kx10 =>
              go_simp
              refine wpMix_load ?vx12 rfl (fun w' hS => ?yx12) ?kx12
              case yx12 =>
                obtain ⟨g1', g2', g3', _⟩ := hS
                go_simp
                try rfl
              case kx12 =>
              go_simp
              refine wpMix_load ?vx13 rfl (fun w' hS => ?yx13) ?kx13
              case yx13 =>
                obtain ⟨g1', g2', g3', _⟩ := hS
                go_simp
                try rfl
              case kx13 =>
              go_simp
              refine wpMix_load ?vx14 rfl (fun w' hS => ?yx14) ?kx14
              case yx14 =>
                obtain ⟨g1', g2', g3', _⟩ := hS
                go_simp
                try rfl
              case kx14 =>
              go_simp
              refine wpMix_load ?vx15 rfl (fun w' hS => ?yx15) ?kx15
              case yx15 =>
                obtain ⟨g1', g2', g3', _⟩ := hS
                go_simp
                try rfl
              case kx15 =>
              go_simp
              refine wpMix_keep rfl ?_
              go_wp2_with fail
              refine HST.out.mono ?_
              rintro e w2 ⟨RA, rc, ss, rfl, hrc, hasc, hmem, hrow2, hb2⟩
              have hss : ss = y := by
                rw [step_is hasc hmem, ← HR.out.fix HFQ.out, getL_of HY.out]
              subst hss
              have hlen := HRB.out q ss HY.out
              have hb12 : Below wa.heap.size wa w2 := HBD.out.trans (hb2.mono HBD.out.size)
              have hsb := sameB_any ss ss RA XA rc xc w2 hlen (hrow2.more fun b hb => hb.2) ((HYR.out.keep (kept_below hb12)).more fun b hb => Nat.lt_of_lt_of_le hb hb12.size)
              rw [← HZY.out] at hsb hlen ⊢
              have HSB := Lib.hid hsb
              have HB12 := Lib.hid hb12
              have HC2' := Lib.hid (HC.out.below hb2)
              refine ⟨HC2'.out, ?_⟩
              clear hrc hasc hmem hrow2 hb2 hlen hb12 hsb
              refine wpMix_keep rfl ?_
              go_wp2_with fail
              refine HSB.out.mono ?_
              rintro e w3 ⟨r, rfl, hr, hb3⟩
              obtain rfl := hr.2 trivial
              have hb13 : Below wa.heap.size wa w3 := HB12.out.trans (hb3.mono HB12.out.size)
              have HB13 := Lib.hid hb13
              have HC3 := Lib.hid (HC2'.out.below hb3)
              refine ⟨HC3.out, ?_⟩
              clear hr hb3 hb13
              refine wpMix_load ?vy17 rfl (fun w' hS => ?yy17) ?ky17
              case yy17 =>
                obtain _ := hS
                go_simp
                try rfl
              case ky17 =>
              go_simp
              refine wpMix_nil ?_
              simp only [opsAt, List.filterMap_nil]
              go_wp2
              refine NoPanic.normal ?_
              go_wp2
              go_roundw
              case rel => exact ⟨q + 1, by omega, by go_num, HB13.out⟩
              case measure => simp [intOf]; omega
        · obtain rfl : q = 4 := by omega
          obtain ⟨wb, rfl⟩ : ∃ w0, w0 = wr := ⟨_, rfl⟩
          obtain ⟨k, hk⟩ : ∃ k : Nat, turn % 4 = (k : Int) := ⟨(turn % 4).toNat, by omega⟩
          have hk3 : k < 4 := by omega
          have HMOD := Lib.hid (mod_any turn 4 wb ht1 ht2 (by omega) (by omega))
          rw [hk] at HMOD
          have HKT := Lib.hid hk
          clear hk
          go_wp2_with fail
          refine HMOD.out.mono ?_
          rintro e wb' ⟨rfl, rfl⟩
          clear HMOD
          go_wp2_with fail
          refine wp_region_mix (AtCells []) [(true, 0), (true, 1), (true, 2), (true, 4), (true, 5), (true, 6), (false, 3), (false, 7), (false, 8)] [9] (by kernel_rfl) (by kernel_rfl) ?st ?ht
          case st => exact trivial
          case ht =>
          simp only [mixAt, List.filterMap_cons, List.filterMap_nil, List.getElem?_toArray, List.getElem?_cons_succ, List.getElem?_cons_zero, Option.map_some]
          refine wpMix_load ?vu0 rfl (fun w' hS => ?yu0) ?ku0
          case yu0 =>
            obtain _ := hS
            go_simp
            try rfl
          case ku0 =>
          go_simp
          refine wpMix_load ?vu1 rfl (fun w' hS => ?yu1) ?ku1
          case yu1 =>
            obtain _ := hS
            go_simp
            try rfl
          case ku1 =>
          go_simp
          refine wpMix_load (backSl g k cap) rfl (fun w' hS => ?yu2) ?ku2
          case yu2 =>
            go_simp
            rw [if_pos (by omega), if_neg (by omega)]
            rfl
          case ku2 =>
          go_simp
          refine wpMix_load ?vu4 rfl (fun w' hS => ?yu4) ?ku4
          case yu4 =>
            obtain _ := hS
            go_simp
            try rfl
          case ku4 =>
          go_simp
          refine wpMix_load ?vu5 rfl (fun w' hS => ?yu5) ?ku5
          case yu5 =>
            obtain _ := hS
            go_simp
            try rfl
          case ku5 =>
          go_simp
          refine wpMix_load (.slice (some ⟨g, 0, none⟩) k cap) rfl (fun w' hS => ?yu6) ?ku6
          case yu6 =>
            go_simp
            intro h
            omega
          case ku6 =>
          go_simp
          have hownb := (Kp.ofBelow (M := fun _ => False) HB.out).own HOWNA.out fun _ _ e => e
          have hrowb := Row.ofOwn (S := fun b => b = g) hownb fun r e _ _ => (congrArg Addr.block (Option.some.inj e)).symm
          have hrowd : Row wb.drew (fun b => b = g) (some ⟨g, 0, none⟩) (flt fvC vs) := hrowb
          have hone := fvs_1 HVL.out HVS.out
          have HROWD := Lib.hid hrowd
          have HROWB := Lib.hid hrowb
          have HONE := Lib.hid hone
          clear hownb hrowb hrowd hone
          refine wpMix_keep rfl ?_
          refine wp_append_row _ _ 22 rfl wb.heap.size 37 i3 _ 3 64 Try.underlying22 fi fz0 fz1 fz2 rfl (by omega) (.slice none 0 0) 0 [] rfl (World.ownsRow_nil _ _ _ _) (fun b => b = g) (some ⟨g, k * 3, none⟩) (4 - k) (cap - k) (flt fvC (vs.drop k)) rfl (by rw [flt_length fvC_len, List.length_drop, HVL.out, HL4.out]) (back_at HROWD.out) (fun u hu => HONE.out u (by rw [← flt_drop fvC_len] at hu; exact List.mem_of_mem_drop hu)) (by unfold maxLen; omega) (by omega) (Nat.le_refl _) ?_
          intro v1 wd hown1 hg1 _
          have hbd : Below wb.heap.size wb wd := ((Below.refl _ wb).drew).grown hg1 (Nat.le_refl _) (fun r hr => by cases hr)
          rw [Nat.zero_add, List.nil_append] at hown1
          have hsd := hbd.size
          have hkd : Kept (Lt wb.heap.size) wb wd := kept_below hbd
          have hrd : Row wd (fun b => b = g) (some ⟨g, 0, none⟩) (flt fvC vs) := HROWB.out.keep (hkd.sub fun b hb => by rw [hb]; unfold Lt; omega)
          obtain ⟨A1, c1, rfl, _⟩ := own_slice hown1
          have HOWN1 := Lib.hid hown1
          have HBD := Lib.hid hbd
          have HRD := Lib.hid hrd
          clear hown1 hg1 hbd hkd hrd
          refine ⟨trivial, ?_⟩
          refine wpMix_keep rfl ?_
          refine wp_append_row _ _ 22 rfl wb.heap.size 37 i3 _ 3 64 Try.underlying22 fi fz0 fz1 fz2 rfl (by omega) (.slice A1 (4 - k) c1) (4 - k) (flt fvC (vs.drop k)) rfl HOWN1.out (fun b => b = g) (some ⟨g, 0, none⟩) k cap (flt fvC (vs.take k)) rfl (by rw [flt_length fvC_len, List.length_take, HVL.out, HL4.out]; omega) (by rw [← flt_take fvC_len]; exact HRD.out.front _) (fun u hu => HONE.out u (by rw [← flt_take fvC_len] at hu; exact List.mem_of_mem_take hu)) (by unfold maxLen; omega) (by omega) hsd ?_
          intro v2 we hown2 hg2 _
          have hlt1 := HOWN1.out.lt
          have hbe : Below wb.heap.size wb we := HBD.out.grown hg2 hsd (fun r hr => (hlt1 r hr).1)
          have hse := hbe.size
          rw [show 4 - k + k = 4 by omega, ← flt_append] at hown2
          obtain ⟨A2, c2, rfl, _⟩ := own_slice hown2
          have hFm : FcsV we (Lt we.heap.size) (.slice A2 4 c2) (turnF l k) := by
            have hlen : (turnF l k).length = 4 := by simp [turnF, HL4.out]; omega
            have hkl : Kept (Lt wr0.heap.size) wr0 we := HKA.out.trans (((kept_below HB.out).sub fun b hb => by unfold Lt at hb ⊢; omega).trans ((kept_below hbe).sub fun b hb => by unfold Lt at hb ⊢; omega))
            have hup : ∀ b, Lt wr0.heap.size b → Lt we.heap.size b := fun b hb => by unfold Lt at hb ⊢; omega
            refine ⟨A2, c2, vs.drop k ++ vs.take k, by rw [hlen], by rw [hlen]; simp [HVL.out, HL4.out]; omega, Row.ofOwn hown2 fun r _ _ h => h, fun i u f' h1 h2 => ?_⟩
            have hi4 : i < 4 := by
              have := (List.getElem?_eq_some_iff.1 h2).1
              rwa [hlen] at this
            rw [turn_at (by rw [HVL.out, HL4.out]) hk3 hi4] at h1
            unfold turnF at h2
            rw [turn_at HL4.out hk3 hi4] at h2
            obtain ⟨a1, a2, a3⟩ := HVS.out _ u f' h1 h2
            exact ⟨a1, ((a2.more (S' := Lt wr0.heap.size) fun b hb => hb.1.2).keep hkl).more hup, ((a3.more (S' := Lt wr0.heap.size) fun b hb => hb.1.2).keep hkl).more hup⟩
          have HAM := Lib.hid (all_any _ _ we (turn_fit HFO.out.small k) hFm)
          have HBE := Lib.hid hbe
          clear hown2 hg2 hlt1 hbe hFm HOWN1 HBD HRD HROWD HROWB HONE
          refine ⟨trivial, ?_⟩
          refine wpMix_keep rfl ?_
          go_wp2_with fail
          refine HAM.out.mono ?_
          rintro e wc ⟨R', g2, rfl, hR', hO', hb11⟩
          have hRl' : R'.length = 4 := by rw [hR'.inv.len]; simp [turnF, HL4.out]; omega
          rw [hRl']
          have HTU : Hid (∀ i, i < 4 → getL R' i = getL R ((i + k) % 4)) := Lib.hid fun i hi => HFO.out.turned hk3 HR.out hR' hi
          have HRL' := Lib.hid hRl'
          have HO' := Lib.hid hO'
          have hbc : Below wb.heap.size wb wc := HBE.out.trans (hb11.mono hse)
          have hbac : Below wa.heap.size wa wc := HB.out.trans (hbc.mono hsw)
          have HOC := Lib.hid (HO.out.below hbac)
          have HBC := Lib.hid (HBA.out.trans (hbac.mono (by have := HBA.out.size; omega)))
          have hsc := hbac.size
          have HOWNC := Lib.hid ((Kp.ofBelow (M := fun _ => False) hbac).own HOWNA.out fun _ _ e => e)
          have HKC := Lib.hid (HKA.out.trans ((kept_below hbac).sub fun b hb => by unfold Lt at hb ⊢; omega))
          refine ⟨trivial, ?_⟩
          clear hRl' hO' hR' hb11 hbc hbac HAM HBE HO HOWNA HKA HBA HB
          refine wpMix_nil ?_
          simp only [opsAt, List.filterMap_cons, List.filterMap_nil, List.getElem?_toArray, List.getElem?_cons_succ, List.getElem?_cons_zero]
          go_wp2
          refine NoPanic.normal ?_
          go_wp2_with fail
          go_loopw [18] (fun i wr => ∃ q : Nat, q ≤ 4 ∧ i = .int .i64 q ∧ Below wc.heap.size wc wr) (fun i _ => 4 - (intOf i).toNat)
          case atStart => exact ⟨0, by omega, rfl, Below.refl _ _⟩
          case round =>
            obtain ⟨q, hq4, rfl, hB⟩ := hrel
            have HB := Lib.hid hB
            have hsw := hB.size
            clear hB
            by_cases hq : q < 4
            · skip
              obtain ⟨z, hz⟩ : ∃ z, z = (q + k) % 4 := ⟨_, rfl⟩
              have hz4 : z < 4 := by omega
              obtain ⟨ya, hya⟩ : ∃ y, R[z]? = some y := ⟨_, List.getElem?_eq_getElem (by rw [HRL.out]; omega)⟩
              obtain ⟨yb, hyb⟩ : ∃ y, R'[q]? = some y := ⟨_, List.getElem?_eq_getElem (by rw [HRL'.out]; exact hq)⟩
              obtain rfl : yb = ya := by
                have := HTU.out q hq
                rwa [getL_of hyb, ← hz, getL_of hya] at this
              obtain ⟨va, a0, _, XA, xc, rfl, _, hra⟩ := HOC.out.at_ hya
              obtain ⟨vb, b0, _, YA, yc, rfl, _, hrb⟩ := HO'.out.at_ hyb
              have a1 := (HB.out.drew.cell (block_lt_of_cell a0)).trans a0
              have b1 := (HB.out.drew.cell (block_lt_of_cell b0)).trans b0
              have hsb := sameB_any yb yb XA YA xc yc wr.drew (HRB.out z yb hya) (((hra.more (S' := Lt wc.heap.size) fun b hb => hb.1.2).keep (kept_below HB.out.drew)).more fun b hb => Nat.lt_of_lt_of_le hb hsw) (((hrb.more (S' := Lt wc.heap.size) fun b hb => hb.1.2).keep (kept_below HB.out.drew)).more fun b hb => Nat.lt_of_lt_of_le hb hsw)
              obtain ⟨y, hy⟩ : ∃ y, y = yb.length := ⟨_, rfl⟩
              rw [← hy] at hsb a1 b1
              have HSB := Lib.hid hsb
              have hC : AtCells [(⟨g1, z, none⟩, .slice XA y xc), (⟨g2, q, none⟩, .slice YA y yc)] wr.drew := ⟨a1, b1, trivial⟩
              have HC := Lib.hid hC
              have hrem : ((q : Int) + (k : Int)).tmod 4 = (z : Int) := by
                rw [Int.tmod_eq_emod_of_nonneg (by omega)]
                omega
              have HREM := Lib.hid hrem
              have hiz : (0 : Int) ≤ (z : Int) ∧ (z : Int) < 4 := ⟨by omega, by omega⟩
              have hiq : (0 : Int) ≤ (q : Int) ∧ (q : Int) < 4 := ⟨by omega, by omega⟩
              clear hz hya hyb a0 b0 hra hrb a1 b1 hsb hy hC hrem
              go_wp2_with fail
              refine wp_region_mix (AtCells [(⟨g1, z, none⟩, .slice XA y xc), (⟨g2, q, none⟩, .slice YA y yc)]) [(true, 0), (true, 1), (true, 2), (true, 3), (true, 4), (true, 5), (true, 6), (true, 7), (true, 8), (true, 9), (true, 10), (false, 11), (true, 12)] [] (by kernel_rfl) (by kernel_rfl) ?sw ?hw
              case sw => exact HC.out
              case hw =>
              simp only [mixAt, List.filterMap_cons, List.filterMap_nil, List.getElem?_toArray, List.getElem?_cons_succ, List.getElem?_cons_zero, Option.map_some]
              refine wpMix_load ?vw0 rfl (fun w' hS => ?yw0) ?kw0
              case yw0 =>
                obtain ⟨a1, b1, _⟩ := hS
                go_simp
                try rfl
              case kw0 =>
              go_simp
              refine wpMix_load ?vw1 rfl (fun w' hS => ?yw1) ?kw1
              case yw1 =>
                obtain ⟨a1, b1, _⟩ := hS
                go_simp
                try rfl
              case kw1 =>
              go_simp
              refine wpMix_load ?vw2 rfl (fun w' hS => ?yw2) ?kw2
              case yw2 =>
                obtain ⟨a1, b1, _⟩ := hS
                go_simp
                try rfl
              case kw2 =>
              go_simp
              refine wpMix_load (.int .i64 ((q : Int) + (k : Int))) rfl (fun w' hS => ?yw3) ?kw3
              case yw3 =>
                go_simp
                rw [IntKind.wrap_i64]
                omega
              case kw3 =>
              go_simp
              refine wpMix_load (.int .i64 (z : Int)) rfl (fun w' hS => ?yw4) ?kw4
              case yw4 =>
                rw [← HREM.out]
                go_simp
              case kw4 =>
              go_simp
              refine wpMix_load ?vw5 rfl (fun w' hS => ?yw5) ?kw5
              case yw5 =>
                obtain ⟨a1, b1, _⟩ := hS
                go_simp
                try rfl
              case kw5 =>
              go_simp
              refine wpMix_load ?vw6 rfl (fun w' hS => ?yw6) ?kw6
              case yw6 =>
                obtain ⟨a1, b1, _⟩ := hS
                go_simp
                try rfl
              case kw6 =>
              go_simp
              refine wpMix_load ?vw7 rfl (fun w' hS => ?yw7) ?kw7
              case yw7 =>
                obtain ⟨a1, b1, _⟩ := hS
                go_simp
                try rfl
              case kw7 =>
              go_simp
              refine wpMix_load ?vw8 rfl (fun w' hS => ?yw8) ?kw8
              case yw8 =>
                obtain ⟨a1, b1, _⟩ := hS
                go_simp
                try rfl
              case kw8 =>
              go_simp
              refine wpMix_load ?vw9 rfl (fun w' hS => ?yw9) ?kw9
              case yw9 =>
                obtain ⟨a1, b1, _⟩ := hS
                go_simp
                try rfl
              case kw9 =>
              go_simp
              refine wpMix_load ?vw10 rfl (fun w' hS => ?yw10) ?kw10
              case yw10 =>
                obtain ⟨a1, b1, _⟩ := hS
                go_simp
                try rfl
              case kw10 =>
              go_simp
              refine wpMix_keep rfl ?_
              go_wp2_with fail
              refine HSB.out.mono ?_
              rintro e w3 ⟨r, rfl, hr, hb3⟩
              obtain rfl := hr.2 trivial
              have HB3 := Lib.hid (HB.out.drew.trans (hb3.mono hsw))
              refine ⟨HC.out.below hb3, ?_⟩
              clear hr hb3
              refine wpMix_load ?vw12 rfl (fun w' hS => ?yw12) ?kw12
              case yw12 =>
                obtain _ := hS
                go_simp
                try rfl
              case kw12 =>
              go_simp
              refine wpMix_nil ?_
              simp only [opsAt, List.filterMap_nil]
              go_wp2
              refine NoPanic.normal ?_
              go_wp2
              go_roundw
              case rel => exact ⟨q + 1, by omega, by go_num, HB3.out⟩
              case measure => simp [intOf]; omega
            · go_wp2_with fail
              obtain ⟨wd, rfl⟩ : ∃ w0, w0 = wr := ⟨_, rfl⟩
              go_loopw [19] (fun i wr => ∃ q : Nat, q ≤ 4 ∧ i = .int .i64 q ∧ Below wc.heap.size wc wr) (fun i _ => 4 - (intOf i).toNat)
              case atStart => exact ⟨0, by omega, rfl, HB.out⟩
              case round =>
                obtain ⟨q, hq4, rfl, hB⟩ := hrel
                have HB := Lib.hid hB
                clear hB
                by_cases hq : q < 4
                · obtain ⟨y, hy⟩ : ∃ y, R[q]? = some y := ⟨_, List.getElem?_eq_getElem (by rw [HRL.out]; exact hq)⟩
                  obtain ⟨va, a0, _, XA, xc, rfl, _, hra⟩ := HOC.out.at_ hy
                  have hyl := HRB.out q y hy
                  have HWHO : Hid (∀ x ∈ y, ∃ (t : Nat) (f : Face) (m : List UInt8), l[t]? = some f ∧ names4[t]? = some m ∧ x.1 ∈ f.own ∧ x.2 = m ++ [58, 58] ++ x.1) := Lib.hid fun x hx => HFO.out.who HR.out (i := q) (by rw [getL_of hy]; exact hx)
                  obtain ⟨z, hz⟩ : ∃ z, z = y.length := ⟨_, rfl⟩
                  rw [← hz] at hyl a0
                  have HZ := Lib.hid hz
                  have HA0 := Lib.hid a0
                  have HRA := Lib.hid (hra.more (S' := Lt wc.heap.size) fun b hb => hb.1.2)
                  have hiq : (0 : Int) ≤ (q : Int) ∧ (q : Int) < 4 := ⟨by omega, by omega⟩
                  clear hy a0 hra hz
                  go_wp2_with fail
                  go_loopw [20] (fun i wr => ∃ j : Nat, j ≤ z ∧ i = .int .i64 j ∧ Below wc.heap.size wc wr) (fun i _ => z - (intOf i).toNat)
                  case atStart => exact ⟨0, by omega, rfl, HB.out⟩
                  case round =>
                    obtain ⟨j, hjz, rfl, hB⟩ := hrel
                    have ca := (hB.cell (block_lt_of_cell HA0.out)).trans HA0.out
                    have HB1 := Lib.hid hB
                    have hsw1 := hB.size
                    clear hB
                    by_cases hj : j < z
                    · obtain ⟨x, hx⟩ : ∃ x, y[j]? = some x := ⟨_, List.getElem?_eq_getElem (by rw [← HZ.out]; exact hj)⟩
                      obtain ⟨ad, rfl, _, p0, p1⟩ := bd_at (HRA.out.keep (kept_below HB1.out)) hx
                      obtain ⟨t, f, mm, hf, ht, hxo, hxd⟩ := HWHO.out x (List.mem_of_getElem? hx)
                      obtain ⟨n, d⟩ := x
                      obtain rfl : d = mm ++ [58, 58] ++ n := hxd
                      have hxo : n ∈ f.own := hxo
                      have hown2 := HFO.out.own f (List.mem_of_getElem? hf)
                      have hnl := hown2.2 n hxo
                      obtain ⟨fv, hfv⟩ : ∃ fv, vs[t]? = some fv := ⟨_, List.getElem?_eq_getElem (by rw [HVL.out]; exact (List.getElem?_eq_some_iff.1 hf).1)⟩
                      obtain ⟨_, ⟨OA, oc, hov, hor⟩, _⟩ := HVS.out t fv f hfv hf
                      have ht4 : t < 4 := (List.getElem?_eq_some_iff.1 ht).1
                      obtain ⟨o, ho⟩ : ∃ o, o = f.own.length := ⟨_, rfl⟩
                      have ho2 : o ≤ 2 := by rw [ho]; exact hown2.1
                      rw [← ho] at hov
                      have c1 := (HOWNC.out.cellAt (t * 3 + 1) (by omega)).trans (flt_at (j := 1) fvC_len hfv rfl)
                      rw [hov] at c1
                      have c1 := (HB1.out.cell (block_lt_of_cell c1)).trans c1
                      have HOR := Lib.hid (((hor.more (S' := Lt wr0.heap.size) fun b hb => hb.1.2).keep (HKC.out.trans ((kept_below HB1.out).sub fun b hb => by unfold Lt at hb ⊢; omega))).more (S' := Lt wr.heap.size) fun b hb => (by unfold Lt at hb ⊢; omega))
                      have HNO := Lib.hid hxo
                      have HO1 := Lib.hid ho
                      have hij : (0 : Int) ≤ (j : Int) ∧ (j : Int) < (z : Int) := ⟨by omega, by omega⟩
                      have h4 : (t = 0 ∧ mm = [97]) ∨ (t = 1 ∧ mm = [98]) ∨ (t = 2 ∧ mm = [99]) ∨ (t = 3 ∧ mm = [100]) := by
                        rcases (by omega : t = 0 ∨ t = 1 ∨ t = 2 ∨ t = 3) with rfl | rfl | rfl | rfl <;> cases ht <;> simp
                      clear hx hf ht hown2 hfv hov hor ho hxo
                      obtain ⟨we, hwe⟩ : ∃ we, we = wr.alloc (.cells #[sv n, sv (mm ++ [58, 58] ++ n)] 42) := ⟨_, rfl⟩
                      have hbe : Below wr.heap.size wr we := by rw [hwe]; exact (Below.refl _ _).alloc (Nat.le_refl _) _
                      have hae := alloc1 wr (.cells #[sv n, sv (mm ++ [58, 58] ++ n)] 42)
                      rw [← hwe] at hae
                      have c1' := (hbe.cell (block_lt_of_cell c1)).trans c1
                      have e0 : we.cell? ⟨wr.heap.size, 0, none⟩ = some (sv n) := (Lib.cell_of_heap hae _).trans rfl
                      have e1 : we.cell? ⟨wr.heap.size, 1, none⟩ = some (sv (mm ++ [58, 58] ++ n)) := (Lib.cell_of_heap hae _).trans rfl
                      have HWE := Lib.hid hwe
                      have HBE := Lib.hid hbe
                      have HAE := Lib.hid hae
                      clear hwe hbe hae
                      obtain ⟨b, hbd⟩ : ∃ b, b = bs (mm ++ [58, 58] ++ n) := ⟨_, rfl⟩
                      have hb1 : 0 < b.size := by rw [hbd, bs_size]; simp; omega
                      have hb2 : ((b[0]'hb1).toNat = 97 + t) := by
                        rcases h4 with ⟨rfl, rfl⟩ | ⟨rfl, rfl⟩ | ⟨rfl, rfl⟩ | ⟨rfl, rfl⟩ <;> (subst hbd; rfl)
                      have hb0 : ¬ b = ByteArray.empty := fun e => by rw [e] at hb1; exact absurd hb1 (by decide)
                      have hbx : b.extract 1 b.size = ⟨#[58, 58]⟩ ++ bs n := by
                        rcases h4 with ⟨rfl, rfl⟩ | ⟨rfl, rfl⟩ | ⟨rfl, rfl⟩ | ⟨rfl, rfl⟩ <;> (
                          subst hbd
                          apply ByteArray.ext
                          simp [bs]
                          exact List.take_of_length_le (by simp [ByteArray.size]))
                      have hbi : (0 : Int) < (b.size : Int) := by omega
                      have hc1 : (97 : Int) ≤ ((b[0]'hb1).toNat : Int) := by omega
                      have hc2 : ((b[0]'hb1).toNat : Int) ≤ 100 := by omega
                      have hix : ((b[0]'hb1).toNat - 97) % 256 = t := by omega
                      have hix2 : (b[0]'hb1).toNat - 97 = t := by omega
                      have hbz : ((b.size : Int) == 0) = false := by simp; omega
                      have hno : ¬ (((((b.size : Int) == 0) = true) ∨ ((b[0]'hb1).toNat : Int) < 97) ∨ 100 < ((b[0]'hb1).toNat : Int)) := by
                        rw [hbz]
                        rintro ((h | h) | h)
                        · cases h
                        · omega
                        · omega
                      have hit : (0 : Int) ≤ (t : Int) ∧ (t : Int) < 4 := ⟨by omega, by omega⟩
                      replace p1 : wr.cell? ⟨(ad.add (j * 2)).block, (ad.add (j * 2)).off + 1, none⟩ = some (.string b) := by rw [hbd]; exact p1
                      replace e1 : we.cell? ⟨wr.heap.size, 1, none⟩ = some (.string b) := by rw [hbd]; exact e1
                      have hwe : we = wr.alloc (.cells #[sv n, .string b] 42) := by rw [hbd]; exact HWE.out
                      have HWB := Lib.hid hwe
                      have HE0 := Lib.hid e0
                      have HE1 := Lib.hid e1
                      have HCE := Lib.hid c1'
                      rw [hwe] at e0 e1 c1'
                      have HBX := Lib.hid hbx
                      clear hbd hwe hbx h4 hb2
                      go_wp2_with fail
                      rw [← HWB.out]
                      clear e0 e1 c1' p0 p1 c1 hbi hc1 hc2 hix hix2 hit hbz hno
                      obtain ⟨w7, rfl⟩ : ∃ w0, w0 = wr := ⟨_, rfl⟩
                      go_loopw [23, 24] (fun th i wr => ∃ m1 : Nat, m1 ≤ o ∧ i = .int .i64 m1 ∧ th = .bool (decide (n ∈ f.own.take m1)) ∧ Below we.heap.size we wr) (fun _ i _ => o - (intOf i).toNat)
                      case atStart => exact ⟨0, by omega, rfl, by simp, Below.refl _ _⟩
                      case round =>
                        obtain ⟨m1, hm1, rfl, rfl, hB⟩ := hrel
                        have HB2 := Lib.hid hB
                        have e0 := (hB.cell (block_lt_of_cell HE0.out)).trans HE0.out
                        have e1 := (hB.cell (block_lt_of_cell HE1.out)).trans HE1.out
                        have hse := HBE.out.size
                        have hb7 : Below w7.heap.size w7 wr := HBE.out.trans (hB.mono hse)
                        clear hB
                        by_cases hlm : m1 < o
                        · skip
                          obtain ⟨s, hs⟩ : ∃ s, f.own[m1]? = some s := ⟨_, List.getElem?_eq_getElem (by rw [← HO1.out]; exact hlm)⟩
                          obtain ⟨od, rfl, _, s0⟩ := (HOR.out.keep (kept_below hb7)).at_ (k := m1) (u := sv s) (by rw [List.getElem?_map, hs]; rfl)
                          have HTK : Hid (f.own.take (m1 + 1) = f.own.take m1 ++ [s]) := Lib.hid (take_snoc hs)
                          have him : (0 : Int) ≤ (m1 : Int) ∧ (m1 : Int) < (o : Int) := ⟨by omega, by omega⟩
                          clear hs hb7
                          go_wp2_with fail
                          by_cases hin : n ∈ f.own.take m1
                          · have hq : decide (n ∈ f.own.take m1) = true := decide_eq_true hin
                            have HIN : Hid (decide (n ∈ f.own.take (m1 + 1)) = true) := Lib.hid (decide_eq_true (by rw [HTK.out]; exact List.mem_append_left _ hin))
                            rw [hq]
                            clear hq hin
                            refine wp_region_mix (AtCells []) [(true, 0), (true, 1), (true, 2), (true, 3), (true, 4), (true, 5), (true, 6), (true, 7), (true, 8), (true, 9)] [10] (by kernel_rfl) (by kernel_rfl) ?sazz ?hazz
                            case sazz => exact trivial
                            case hazz =>
                            simp only [mixAt, List.filterMap_cons, List.filterMap_nil, List.getElem?_toArray, List.getElem?_cons_succ, List.getElem?_cons_zero, Option.map_some]
                            refine wpMix_load ?vzza0 rfl (fun w' hS => ?yzza0) ?kzza0
                            case yzza0 =>
                              obtain _ := hS
                              go_simp
                              try rfl
                            case kzza0 =>
                            go_simp
                            refine wpMix_load ?vzza1 rfl (fun w' hS => ?yzza1) ?kzza1
                            case yzza1 =>
                              obtain _ := hS
                              go_simp
                              try rfl
                            case kzza1 =>
                            go_simp
                            refine wpMix_skip rfl ?_
                            go_simp
                            refine wpMix_skip rfl ?_
                            go_simp
                            refine wpMix_skip rfl ?_
                            go_simp
                            refine wpMix_skip rfl ?_
                            go_simp
                            refine wpMix_skip rfl ?_
                            go_simp
                            refine wpMix_skip rfl ?_
                            go_simp
                            refine wpMix_skip rfl ?_
                            go_simp
                            refine wpMix_load ?vzzb9 rfl (fun w' hS => ?yzzb9) ?kzzb9
                            case yzzb9 =>
                              obtain _ := hS
                              go_simp
                              try rfl
                            case kzzb9 =>
                            go_simp
                            refine wpMix_nil ?_
                            simp only [opsAt, List.filterMap_cons, List.filterMap_nil, List.getElem?_toArray, List.getElem?_cons_succ, List.getElem?_cons_zero]
                            go_wp2
                            refine NoPanic.normal ?_
                            go_wp2
                            go_roundw
                            case rel => exact ⟨m1 + 1, by omega, by go_num, by rw [HIN.out], HB2.out.drew⟩
                            case measure => simp [intOf]; omega
                          · have hq : decide (n ∈ f.own.take m1) = false := decide_eq_false hin
                            have HIN : Hid (decide (n ∈ f.own.take (m1 + 1)) = decide (s = n)) := Lib.hid (by
                              rw [HTK.out]
                              by_cases e : s = n
                              · simp [e]
                              · simp [e, hin, Ne.symm e])
                            rw [hq]
                            clear hq hin
                            refine wp_region_mix (AtCells [(⟨w7.heap.size, 0, none⟩, sv n), (od.add m1, sv s)]) [(true, 0), (true, 1), (true, 2), (true, 3), (true, 4), (true, 5), (true, 6), (true, 7), (true, 8), (true, 9)] [10] (by kernel_rfl) (by kernel_rfl) ?sbzz ?hbzz
                            case sbzz => exact ⟨e0, s0, trivial⟩
                            case hbzz =>
                            clear e0 e1 s0
                            simp only [mixAt, List.filterMap_cons, List.filterMap_nil, List.getElem?_toArray, List.getElem?_cons_succ, List.getElem?_cons_zero, Option.map_some]
                            refine wpMix_load ?vzzc0 rfl (fun w' hS => ?yzzc0) ?kzzc0
                            case yzzc0 =>
                              obtain ⟨e0, s0, _⟩ := hS
                              go_simp
                              try rfl
                            case kzzc0 =>
                            go_simp
                            refine wpMix_load ?vzzc1 rfl (fun w' hS => ?yzzc1) ?kzzc1
                            case yzzc1 =>
                              obtain ⟨e0, s0, _⟩ := hS
                              go_simp
                              try rfl
                            case kzzc1 =>
                            go_simp
                            refine wpMix_load ?vzzc2 rfl (fun w' hS => ?yzzc2) ?kzzc2
                            case yzzc2 =>
                              obtain ⟨e0, s0, _⟩ := hS
                              go_simp
                              try rfl
                            case kzzc2 =>
                            go_simp
                            refine wpMix_load ?vzzc3 rfl (fun w' hS => ?yzzc3) ?kzzc3
                            case yzzc3 =>
                              obtain ⟨e0, s0, _⟩ := hS
                              go_simp
                              try rfl
                            case kzzc3 =>
                            go_simp
                            refine wpMix_load ?vzzc4 rfl (fun w' hS => ?yzzc4) ?kzzc4
                            case yzzc4 =>
                              obtain ⟨e0, s0, _⟩ := hS
                              go_simp
                              try rfl
                            case kzzc4 =>
                            go_simp
                            refine wpMix_load ?vzzc5 rfl (fun w' hS => ?yzzc5) ?kzzc5
                            case yzzc5 =>
                              obtain ⟨e0, s0, _⟩ := hS
                              go_simp
                              try rfl
                            case kzzc5 =>
                            go_simp
                            refine wpMix_load ?vzzc6 rfl (fun w' hS => ?yzzc6) ?kzzc6
                            case yzzc6 =>
                              obtain ⟨e0, s0, _⟩ := hS
                              go_simp
                              try rfl
                            case kzzc6 =>
                            go_simp
                            refine wpMix_load ?vzzc7 rfl (fun w' hS => ?yzzc7) ?kzzc7
                            case yzzc7 =>
                              obtain ⟨e0, s0, _⟩ := hS
                              go_simp
                              try rfl
                            case kzzc7 =>
                            go_simp
                            refine wpMix_load (.bool (decide (s = n))) rfl (fun w' hS => ?y8zz) ?k8zz
                            case y8zz =>
                              go_simp
                              simp only [bs_toList]
                              by_cases h1 : s = n <;> simp [h1]
                            case k8zz =>
                            go_simp
                            refine wpMix_load ?vzzd9 rfl (fun w' hS => ?yzzd9) ?kzzd9
                            case yzzd9 =>
                              obtain _ := hS
                              go_simp
                              try rfl
                            case kzzd9 =>
                            go_simp
                            refine wpMix_nil ?_
                            simp only [opsAt, List.filterMap_cons, List.filterMap_nil, List.getElem?_toArray, List.getElem?_cons_succ, List.getElem?_cons_zero]
                            go_wp2
                            refine NoPanic.normal ?_
                            go_wp2
                            go_roundw
                            case rel => exact ⟨m1 + 1, by omega, by go_num, by rw [HIN.out], HB2.out.drew⟩
                            case measure => simp [intOf]; omega
                        · have hin : decide (n ∈ f.own.take m1) = true := decide_eq_true (by
                            rw [List.take_of_length_le (by rw [← HO1.out]; omega)]
                            exact HNO.out)
                          rw [hin]
                          clear hin
                          have hnb : ¬ 9223372036854775807 < 2 + (bs n).size := by rw [bs_size]; omega
                          go_wp2_with fail
                          refine wp_region_mix (AtCells [(⟨w7.heap.size, 0, none⟩, sv n), (⟨w7.heap.size, 1, none⟩, .string b)]) [(true, 0), (true, 1), (true, 2), (true, 3), (true, 4), (true, 5), (true, 6), (true, 7), (true, 8), (true, 9), (true, 10)] [] (by kernel_rfl) (by kernel_rfl) ?sczz ?hczz
                          case sczz => exact ⟨e0, e1, trivial⟩
                          case hczz =>
                          clear e0 e1
                          simp only [mixAt, List.filterMap_cons, List.filterMap_nil, List.getElem?_toArray, List.getElem?_cons_succ, List.getElem?_cons_zero, Option.map_some]
                          refine wpMix_load ?vzze0 rfl (fun w' hS => ?yzze0) ?kzze0
                          case yzze0 =>
                            obtain ⟨e0, e1, _⟩ := hS
                            go_simp
                            try rfl
                          case kzze0 =>
                          go_simp
                          refine wpMix_load ?vzze1 rfl (fun w' hS => ?yzze1) ?kzze1
                          case yzze1 =>
                            obtain ⟨e0, e1, _⟩ := hS
                            go_simp
                            try rfl
                          case kzze1 =>
                          go_simp
                          refine wpMix_load ?vzze2 rfl (fun w' hS => ?yzze2) ?kzze2
                          case yzze2 =>
                            obtain ⟨e0, e1, _⟩ := hS
                            go_simp
                            try rfl
                          case kzze2 =>
                          go_simp
                          refine wpMix_load ?vzze3 rfl (fun w' hS => ?yzze3) ?kzze3
                          case yzze3 =>
                            obtain ⟨e0, e1, _⟩ := hS
                            go_simp
                            try rfl
                          case kzze3 =>
                          go_simp
                          refine wpMix_load ?vzze4 rfl (fun w' hS => ?yzze4) ?kzze4
                          case yzze4 =>
                            obtain ⟨e0, e1, _⟩ := hS
                            go_simp
                            try rfl
                          case kzze4 =>
                          go_simp
                          refine wpMix_load (.string (⟨#[58, 58]⟩ ++ bs n)) rfl (fun w' hS => ?y5zz) ?k5zz
                          case y5zz =>
                            rw [← HBX.out]
                            go_simp
                            intro h
                            omega
                          case k5zz =>
                          go_simp
                          refine wpMix_load ?vzzf6 rfl (fun w' hS => ?yzzf6) ?kzzf6
                          case yzzf6 =>
                            obtain ⟨e0, e1, _⟩ := hS
                            go_simp
                            try rfl
                          case kzzf6 =>
                          go_simp
                          refine wpMix_load ?vzzf7 rfl (fun w' hS => ?yzzf7) ?kzzf7
                          case yzzf7 =>
                            obtain ⟨e0, e1, _⟩ := hS
                            go_simp
                            try rfl
                          case kzzf7 =>
                          go_simp
                          refine wpMix_load (.string (⟨#[58, 58]⟩ ++ bs n)) rfl (fun w' hS => ?y8zz) ?k8zz
                          case y8zz =>
                            go_simp
                            done
                          case k8zz =>
                          go_simp
                          refine wpMix_load (.bool false) rfl (fun w' hS => ?y9zz) ?k9zz
                          case y9zz =>
                            go_simp
                            done
                          case k9zz =>
                          go_simp
                          refine wpMix_load ?vzzg10 rfl (fun w' hS => ?yzzg10) ?kzzg10
                          case yzzg10 =>
                            obtain _ := hS
                            go_simp
                            try rfl
                          case kzzg10 =>
                          go_simp
                          refine wpMix_nil ?_
                          simp only [opsAt, List.filterMap_nil]
                          go_wp2
                          refine NoPanic.normal ?_
                          go_wp2
                          go_roundw
                          case rel => exact ⟨j + 1, by omega, by go_num, (HB1.out.trans (hb7.mono hsw1)).drew⟩
                          case measure => simp [intOf]; omega
                    · go_wp2
                      go_roundw
                      case rel => exact ⟨q + 1, by omega, by go_num, HB1.out⟩
                      case measure => simp [intOf]; omega
                · go_wp2_with fail
                  refine (awake_any wr).mono ?_
                  rintro e wz ⟨rfl, hbz⟩
                  have hsc2 := HBC.out.size
                  have hsb2 := HB.out.size
                  have HBz := Lib.hid ((HBC.out.trans (HB.out.mono hsc2)).trans (hbz.mono (by omega)))
                  clear hbz
                  go_wp2
                  go_ret
                  exact ⟨rfl, HBz.out⟩
theorem law_all (xs : List Int) (TA : Option Addr) (tc : Nat) (turn : Int) (w : World) (hA : Row w (Lt w.heap.size) TA (xs.map (Value.int .i64))) (hf : ∀ x ∈ xs, -9223372036854775808 ≤ x ∧ x ≤ 9223372036854775807) (ht1 : -9223372036854775808 ≤ turn) (ht2 : turn ≤ 9223372036854775807) :
    Calls Try.prog 4 #[.slice TA xs.length tc, .int .i64 turn] w fun e w' => e = .returned (.bool true) ∧ Below w.heap.size w w' := by
  by_cases h : xs.length ≤ 400
  · exact least_light xs TA tc turn w hA h hf ht1 ht2
  · exact least_heavy xs.length TA tc turn w h
end Go.Proofs.Ytcliegpofhjpcaa
