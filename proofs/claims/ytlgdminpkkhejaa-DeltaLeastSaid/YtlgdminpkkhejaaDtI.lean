/-
  The walk of law40's DeltaLeast.
  Conditions: the numbers lie in memory.
-/
import Derived.Test.YtlgdminpkkhejaaDtU
import Derived.Test.YtlgdminpkkhejaaDtC
namespace Go.Proofs.Ytlgdminpkkhejaa
open Go.RowKit

/-! ### Counts by place -/
/-- The cells of two rows of six numbers. -/
def boxA (h : Nat → Nat → Nat) : Array Value := #[.int .i64 (h 0 0 : Nat), .int .i64 (h 0 1 : Nat), .int .i64 (h 0 2 : Nat), .int .i64 (h 0 3 : Nat), .int .i64 (h 0 4 : Nat), .int .i64 (h 0 5 : Nat), .int .i64 (h 1 0 : Nat), .int .i64 (h 1 1 : Nat), .int .i64 (h 1 2 : Nat), .int .i64 (h 1 3 : Nat), .int .i64 (h 1 4 : Nat), .int .i64 (h 1 5 : Nat)]
theorem box_at (h : Nat → Nat → Nat) {i n : Nat} (hi : i < 2) (hn : n < 6) : (boxA h)[i * 6 + n]? = some (.int .i64 (h i n : Nat)) := by
  obtain rfl | rfl : i = 0 ∨ i = 1 := by omega
  · obtain rfl | rfl | rfl | rfl | rfl | rfl : n = 0 ∨ n = 1 ∨ n = 2 ∨ n = 3 ∨ n = 4 ∨ n = 5 := by omega
    all_goals rfl
  · obtain rfl | rfl | rfl | rfl | rfl | rfl : n = 0 ∨ n = 1 ∨ n = 2 ∨ n = 3 ∨ n = 4 ∨ n = 5 := by omega
    all_goals rfl
theorem box_congr {h h' : Nat → Nat → Nat} (e : ∀ i n, i < 2 → n < 6 → h i n = h' i n) : boxA h = boxA h' := by
  unfold boxA
  rw [e 0 0 (by decide) (by decide), e 0 1 (by decide) (by decide), e 0 2 (by decide) (by decide), e 0 3 (by decide) (by decide), e 0 4 (by decide) (by decide), e 0 5 (by decide) (by decide), e 1 0 (by decide) (by decide), e 1 1 (by decide) (by decide), e 1 2 (by decide) (by decide), e 1 3 (by decide) (by decide), e 1 4 (by decide) (by decide), e 1 5 (by decide) (by decide)]
theorem box_set (h : Nat → Nat → Nat) (x : Nat) {i n : Nat} (hi : i < 2) (hn : n < 6) : (boxA h).setIfInBounds (i * 6 + n) (.int .i64 (x : Nat)) = boxA fun j k => if j = i ∧ k = n then x else h j k := by
  obtain rfl | rfl : i = 0 ∨ i = 1 := by omega
  · obtain rfl | rfl | rfl | rfl | rfl | rfl : n = 0 ∨ n = 1 ∨ n = 2 ∨ n = 3 ∨ n = 4 ∨ n = 5 := by omega
    all_goals rfl
  · obtain rfl | rfl | rfl | rfl | rfl | rfl : n = 0 ∨ n = 1 ∨ n = 2 ∨ n = 3 ∨ n = 4 ∨ n = 5 := by omega
    all_goals rfl
/-- One of two lists. -/
def two (old now : List Msg) (i : Nat) : List Msg := if i = 0 then old else now
/-- How many of a kind stand at a place, while they are counted. -/
def cnts (κ : Int × List UInt8) (old now : List Msg) (i u : Nat) : Nat → Nat → Nat := fun j n => if j < i then (two old now j).count ((n : Int), κ) else if j = i then ((two old now i).take u).count ((n : Int), κ) else 0
theorem cnts_zero (κ : Int × List UInt8) (old now : List Msg) (i n : Nat) : cnts κ old now 0 0 i n = 0 := by
  unfold cnts
  rw [if_neg (Nat.not_lt_zero _)]
  split <;> simp
theorem cnts_next (κ : Int × List UInt8) (old now : List Msg) (i : Nat) : cnts κ old now i (two old now i).length = cnts κ old now (i + 1) 0 := by
  funext j n
  unfold cnts
  by_cases h1 : j < i
  · rw [if_pos h1, if_pos (by omega)]
  · rw [if_neg h1]
    by_cases h2 : j = i
    · subst h2
      rw [if_pos rfl, if_pos (by omega), List.take_of_length_le (Nat.le_refl _)]
    · rw [if_neg h2, if_neg (by omega)]
      split <;> simp
theorem cnts_le (κ : Int × List UInt8) (old now : List Msg) (h : old.length ≤ 9) (h' : now.length ≤ 9) (i u j n : Nat) : cnts κ old now i u j n ≤ 9 := by
  have hc : ∀ k (m : Msg), (two old now k).count m ≤ 9 := fun k m => by
    unfold two
    split
    · exact Nat.le_trans List.count_le_length h
    · exact Nat.le_trans List.count_le_length h'
  unfold cnts
  split
  · exact hc _ _
  · split
    · exact Nat.le_trans ((List.take_sublist _ _).count_le _) (hc _ _)
    · omega
theorem take_more {α : Type} {l : List α} {u : Nat} {x : α} (h : l[u]? = some x) : l.take (u + 1) = l.take u ++ [x] := by rw [List.take_add_one, h]; rfl
theorem cnts_yes (κ : Int × List UInt8) (old now : List Msg) {i u : Nat} {m : Msg} (hm : (two old now i)[u]? = some m) (hk : m.2 = κ) {c : Nat} (hc : (c : Int) = m.1) : ∀ j n, cnts κ old now i (u + 1) j n = if j = i ∧ n = c then cnts κ old now i u i c + 1 else cnts κ old now i u j n := fun j n => by
  unfold cnts
  by_cases h1 : j < i
  · rw [if_pos h1, if_neg (by omega), if_pos h1]
  · rw [if_neg h1, if_neg h1]
    by_cases h2 : j = i
    · subst h2
      have hme : m = ((c : Int), κ) := Prod.ext hc.symm hk
      rw [if_pos rfl, if_pos rfl, if_neg (Nat.lt_irrefl _), take_more hm, List.count_append, hme]
      by_cases h3 : n = c
      · subst h3
        simp
      · have h4 : ¬ (c : Int) = (n : Int) := fun e => h3 (by omega)
        simp [h3, h4]
    · rw [if_neg h2, if_neg h2, if_neg (fun e => h2 e.1)]
theorem cnts_no (κ : Int × List UInt8) (old now : List Msg) {i u : Nat} {m : Msg} (hm : (two old now i)[u]? = some m) (hk : ¬ m.2 = κ) : cnts κ old now i (u + 1) = cnts κ old now i u := by
  funext j n
  unfold cnts
  by_cases h1 : j < i
  · rw [if_pos h1, if_pos h1]
  · rw [if_neg h1, if_neg h1]
    by_cases h2 : j = i
    · subst h2
      rw [if_pos rfl, if_pos rfl, take_more hm, List.count_append, List.count_singleton]
      have : (m == ((n : Int), κ)) = false := by
        cases h : m == ((n : Int), κ) with
        | false => rfl
        | true => exact absurd (congrArg Prod.snd (eq_of_beq h)) hk
      rw [this]
      simp
    · rw [if_neg h2, if_neg h2]
/-- What is left of one row without the other, place by place. -/
def offD (f g : Nat → Nat) : Nat → Nat
  | 0 => 0
  | t + 1 => offD f g t + f t - min (f t) (g t)
theorem offD_le (f g : Nat → Nat) (hf : ∀ n, f n ≤ 9) : ∀ t, offD f g t ≤ 9 * t
  | 0 => Nat.le_refl _
  | t + 1 => by
    have := offD_le f g hf t
    have := hf t
    unfold offD
    omega
theorem offD_step (f g : Nat → Nat) (t : Nat) : offD f g (t + 1) = offD f g t + (f t - g t) := by
  rw [offD]
  omega
theorem offD_all (κ : Int × List UInt8) (old now : List Msg) (h : ∀ m ∈ old, 0 ≤ m.1 ∧ m.1 < 6) (f g : Nat → Nat) (hf : ∀ n : Nat, f n = old.count ((n : Int), κ)) (hg : ∀ n : Nat, g n = now.count ((n : Int), κ)) : offD f g 6 = (fk κ (goneM old now)).length := by
  rw [← fk_sum κ _ (gone_made now h), gone_count, gone_count, gone_count, gone_count, gone_count, gone_count]
  have h0 : f 0 = old.count ((0 : Int), κ) := hf 0
  have h1 : f 1 = old.count ((1 : Int), κ) := hf 1
  have h2 : f 2 = old.count ((2 : Int), κ) := hf 2
  have h3 : f 3 = old.count ((3 : Int), κ) := hf 3
  have h4 : f 4 = old.count ((4 : Int), κ) := hf 4
  have h5 : f 5 = old.count ((5 : Int), κ) := hf 5
  have g0 : g 0 = now.count ((0 : Int), κ) := hg 0
  have g1 : g 1 = now.count ((1 : Int), κ) := hg 1
  have g2 : g 2 = now.count ((2 : Int), κ) := hg 2
  have g3 : g 3 = now.count ((3 : Int), κ) := hg 3
  have g4 : g 4 = now.count ((4 : Int), κ) := hg 4
  have g5 : g 5 = now.count ((5 : Int), κ) := hg 5
  rw [offD_step, offD_step, offD_step, offD_step, offD_step, offD_step, h0, h1, h2, h3, h4, h5, g0, g1, g2, g3, g4, g5, offD, Nat.zero_add]
theorem fk_take (κ : Int × List UInt8) {l : List Msg} {u : Nat} {m : Msg} (h : l[u]? = some m) : (fk κ (l.take (u + 1))).length = (fk κ (l.take u)).length + if m.2 = κ then 1 else 0 := by
  rw [take_more h]
  unfold fk
  rw [List.filter_append, List.length_append]
  by_cases e : m.2 = κ
  · rw [if_pos e]; simp [e]
  · rw [if_neg e]; simp [e]
theorem fk_few (κ : Int × List UInt8) (l : List Msg) (u : Nat) : (fk κ (l.take u)).length ≤ l.length := Nat.le_trans (List.length_filter_le _ _) (List.length_take_le' _ _)

set_option maxHeartbeats 1600000 in
set_option maxRecDepth 100000 in
theorem least_heavy (n : Nat) (A : Option Addr) (c : Nat) (w : World) (hn : ¬ n ≤ 400) :
    Calls Try.prog 5 #[.slice A n c] w fun e w' => e = .returned (.bool true) ∧ Below w.heap.size w w' := by
  have HLI := Lib.hid (light_any n A c w)
  rw [decide_eq_false hn] at HLI
  have HAW := Lib.hid (awake_any w)
  clear hn
  go_enter Try.func5, Try.ntmps5
  go_wp2_with fail
  refine HLI.out.mono ?_
  rintro e w1 ⟨rfl, rfl⟩
  go_wp2_with fail
  refine HAW.out.mono ?_
  rintro e w2 ⟨rfl, hb⟩
  go_wp2
  go_ret
  exact ⟨rfl, hb⟩
set_option maxHeartbeats 6400000 in
set_option maxRecDepth 100000 in
theorem least_light (xs : List Int) (A : Option Addr) (c : Nat) (w : World) (hA : Row w (Lt w.heap.size) A (xs.map (Value.int .i64))) (hn : xs.length ≤ 400) (hf : ∀ x ∈ xs, -9223372036854775808 ≤ x ∧ x ≤ 9223372036854775807) :
    Calls Try.prog 5 #[.slice A xs.length c] w fun e w' => e = .returned (.bool true) ∧ Below w.heap.size w w' := by
  have HLI := Lib.hid (light_any xs.length A c w)
  rw [decide_eq_true hn] at HLI
  have HRO := Lib.hid (roll_any xs A c w hA hn hf)
  obtain ⟨z, hz⟩ : ∃ z, z = xs.length := ⟨_, rfl⟩
  rw [← hz] at HLI HRO ⊢
  obtain ⟨i0, hi, hz0, hz1, hz2⟩ := info_parts infoMs
  clear hA hn hz hf
  go_enter Try.func5, Try.ntmps5
  go_wp2_with fail
  refine HLI.out.mono ?_
  rintro e w0 ⟨rfl, rfl⟩
  go_wp2_with fail
  refine HRO.out.mono ?_
  rintro e w1 ⟨rfl, hD1, hb1⟩
  have HB1 := Lib.hid hb1
  have hs1 := hb1.size
  have hd1 := hD1.lt
  have HM1 := Lib.hid (msgs_any 9 w.heap.size xs w1 (by decide) hD1)
  clear hD1 hb1 HRO HLI
  go_wp2_with fail
  refine HM1.out.mono ?_
  rintro e w2 ⟨v2, old, rfl, hown2, hol, hmo, hD2, hK2⟩
  obtain ⟨OA, oc, rfl, hon⟩ := own_slice hown2
  have HB2 := Lib.hid (kp_below HB1.out hK2 fun y e => by omega)
  have HM2 := Lib.hid (msgs_any 9 w.heap.size xs w2 (by decide) hD2)
  have HO2 := Lib.hid hown2
  have hs2 := hK2.size
  clear hD2 hK2 HM1 hown2
  go_wp2_with fail
  refine HM2.out.mono ?_
  rintro e w3 ⟨v3, now, rfl, hown3, hnl, hmn, hD3, hK3⟩
  obtain ⟨NA, nc, rfl, hnn⟩ := own_slice hown3
  have hB3 := kp_below HB2.out hK3 fun y e => by omega
  have HRO := Lib.hid (Row.ofOwn (S := Lt w3.heap.size) (hK3.own HO2.out fun g hg e => by have := (HO2.out.lt g hg).1; have e : g = w.heap.size := e; omega) fun _ _ _ h => h)
  have HRN := Lib.hid (Row.ofOwn (S := Lt w3.heap.size) hown3 fun _ _ _ h => h)
  have HB3 := Lib.hid hB3
  have hs3 := hK3.size
  clear hD3 hK3 HM2 hown3 hB3 HO2 HB2 HB1
  have HF := Lib.hid (dof_any old now OA NA oc nc w3 (by omega) (by omega) hon hnn HRO.out HRN.out)
  have HLE := Lib.hid (of_least old now)
  have hmf := mate_few (goneM now old) (goneM old now)
  have hgl1 := gone_len old now
  have hgl2 := gone_len now old
  obtain ⟨x, hx⟩ : ∃ x, x = ofM old now := ⟨_, rfl⟩
  have hla : x.gone.length ≤ 9 := by rw [hx]; show (mateM old now).2.2.length ≤ 9; unfold mateM; omega
  have hlb : x.come.length ≤ 9 := by rw [hx]; show (mateM old now).1.length ≤ 9; unfold mateM; omega
  have hlm : x.moved.length ≤ 9 := by rw [hx]; show ((mateM old now).2.1.map mvOf).length ≤ 9; unfold mateM; rw [List.length_map]; omega
  rw [← hx] at HF HLE
  obtain ⟨n, hn⟩ : ∃ n, n = old.length := ⟨_, rfl⟩
  obtain ⟨p, hp⟩ : ∃ p, p = now.length := ⟨_, rfl⟩
  rw [← hn] at HF ⊢
  rw [← hp] at HF ⊢
  have HN := Lib.hid (And.intro hn hp)
  have hn9 : n ≤ 9 := by omega
  have hp9 : p ≤ 9 := by omega
  have HMA := Lib.hid (And.intro hmo hmn)
  clear hn hp hx hmf hgl1 hgl2 hon hnn hmo hmn hol hnl
  go_wp2_with fail
  refine HF.out.mono ?_
  rintro e w5 ⟨v5, rfl, hD5, hb5⟩
  have hD5 := hD5.more (S' := Lt w5.heap.size) fun y hy => hy.2
  have HDX := Lib.hid fun w' (hb : Below w5.heap.size w5 w') => hD5.below hb
  obtain ⟨X1, X2, X3, xc1, xc2, xc3, rfl, _, _, xk1, xk2, xk3, xr1, xr2, xr3⟩ := hD5
  have HXR := Lib.hid fun w' (hb : Below w5.heap.size w5 w') => And.intro (xr1.below hb) (And.intro (xr2.below hb) (xr3.below hb))
  obtain ⟨xg, hxg'⟩ : ∃ n, n = x.gone.length := ⟨_, rfl⟩
  obtain ⟨xc, hxc'⟩ : ∃ n, n = x.come.length := ⟨_, rfl⟩
  obtain ⟨xm, hxm'⟩ : ∃ n, n = x.moved.length := ⟨_, rfl⟩
  rw [← hxg', ← hxc', ← hxm']
  rw [← hxg'] at hla
  rw [← hxc'] at hlb
  rw [← hxm'] at hlm
  have HXL := Lib.hid (And.intro hxg' (And.intro hxc' hxm'))
  have HB35 := Lib.hid hb5
  obtain ⟨w6, hw6⟩ : ∃ w6, w6 = w5.alloc (.cells #[.slice X1 xg xc1, .slice X2 xc xc2, .slice X3 xm xc3] 25) := ⟨_, rfl⟩
  have hb6 : Below w5.heap.size w5 w6 := by rw [hw6]; exact (Below.refl _ _).alloc (Nat.le_refl _) _
  have hx6 : w6.heap[w5.heap.size]? = some (.cells #[.slice X1 xg xc1, .slice X2 xc xc2, .slice X3 xm xc3] 25 (0, 0)) := by rw [hw6]; exact alloc1 _ _
  have HX6 := Lib.hid hx6
  have HB56 := Lib.hid hb6
  have HW6 := Lib.hid hw6
  clear xr1 xr2 xr3 xk1 xk2 xk3 hxg' hxc' hxm' hb5 hb6 hx6 hw6 HF
  go_wp2_with fail
  rw [← HW6.out]
  go_loopw [7] (fun i wr => ∃ k : Nat, 1 ≤ k ∧ k ≤ 3 ∧ i = .int .i64 k ∧ Below w6.heap.size w6 wr) (fun i _ => 3 - (intOf i).toNat)
  case atStart => exact ⟨1, by omega, by omega, rfl, Below.refl _ _⟩
  case round =>
    obtain ⟨k, hk1, hk3, rfl, hB⟩ := hrel
    by_cases hlt : k < 3
    · have hkl : (k : Int) ≤ 2 := by omega
      obtain ⟨wz, hwz⟩ : ∃ wz, wz = wr := ⟨_, rfl⟩
      rw [← hwz] at hB ⊢
      clear hwz
      obtain ⟨wl, hwl⟩ : ∃ wl, wl = wz.alloc (.cells #[.string ⟨#[]⟩, .string ⟨#[97]⟩] 9) := ⟨_, rfl⟩
      have hbl : Below wz.heap.size wz wl := by rw [hwl]; exact (Below.refl _ _).alloc (Nat.le_refl _) _
      have hxl : wl.heap[wz.heap.size]? = some (.cells #[.string ⟨#[]⟩, .string ⟨#[97]⟩] 9 (0, 0)) := by rw [hwl]; exact alloc1 _ _
      have HXLIT := Lib.hid hxl
      have HBL := Lib.hid (hB.trans (hbl.mono hB.size))
      have HWL := Lib.hid hwl
      clear hB hbl hxl hwl
      go_wp2_with fail
      rw [← HWL.out]
      go_loopw [47] (fun i wr => ∃ s : Nat, s ≤ 2 ∧ i = .int .i64 s ∧ Below wl.heap.size wl wr) (fun i _ => 2 - (intOf i).toNat)
      case atStart => exact ⟨0, by omega, rfl, Below.refl _ _⟩
      case round =>
        obtain ⟨s, hs, rfl, hBs⟩ := hrel
        by_cases hs2 : s < 2
        · obtain ⟨tx, htx⟩ : ∃ tx : List UInt8, wr.cell? ⟨wz.heap.size, s, none⟩ = some (sv tx) := by
            have hx := (hBs.block _ (lt_of_heap HXLIT.out)).trans HXLIT.out
            obtain rfl | rfl : s = 0 ∨ s = 1 := by omega
            · exact ⟨[], (Lib.cell_of_heap hx _).trans rfl⟩
            · exact ⟨[97], (Lib.cell_of_heap hx _).trans rfl⟩
          have his : (0 : Int) ≤ (s : Int) ∧ (s : Int) < 2 := ⟨by omega, by omega⟩
          obtain ⟨wq, hwq⟩ : ∃ wq, wq = wr := ⟨_, rfl⟩
          rw [← hwq] at hBs htx ⊢
          clear hwq
          have HBS := Lib.hid hBs
          clear hBs
          obtain ⟨κ, hκ⟩ : ∃ κ : Int × List UInt8, κ = ((k : Int), tx) := ⟨_, rfl⟩
          have HK := Lib.hid hκ
          obtain ⟨wb, hwb⟩ : ∃ wb, wb = (wq.alloc (.cells #[.int .i64 0, .int .i64 0, .int .i64 0, .int .i64 0, .int .i64 0, .int .i64 0, .int .i64 0, .int .i64 0, .int .i64 0, .int .i64 0, .int .i64 0, .int .i64 0] 52)).alloc (.cells #[.slice OA n oc, .slice NA p nc] 22) := ⟨_, rfl⟩
          have hbb : Below wq.heap.size wq wb := by rw [hwb]; exact ((Below.refl _ _).alloc (Nat.le_refl _) _).alloc (by simp) _
          have hx12 := alloc2 wq (.cells #[.int .i64 0, .int .i64 0, .int .i64 0, .int .i64 0, .int .i64 0, .int .i64 0, .int .i64 0, .int .i64 0, .int .i64 0, .int .i64 0, .int .i64 0, .int .i64 0] 52) (.cells #[.slice OA n oc, .slice NA p nc] 22)
          rw [← hwb] at hx12
          have hx1 : wb.heap[wq.heap.size]? = some (.cells (boxA (cnts κ old now 0 0)) 52 (0, 0)) := by
            rw [hx12.1, box_congr (h := cnts κ old now 0 0) (h' := fun _ _ => 0) (fun i n _ _ => cnts_zero _ _ _ _ _)]
            rfl
          have hsb : wb.heap.size = wq.heap.size + 2 := by rw [hwb]; simp
          have hb3q := HB35.out.trans ((HB56.out.trans ((HBL.out.trans (HBS.out.mono HBL.out.size)).mono HB56.out.size)).mono HB35.out.size)
          have hb3b := hb3q.trans (hbb.mono hb3q.size)
          have HB3B := Lib.hid hb3b
          have h3q := hb3q.size
          have HIT : Hid (∀ (c : Nat), c < 2 → ∃ (LA : Option Addr) (ln lc : Nat), ln = (two old now c).length ∧ ∀ w' : World, Kp (fun y => y = wq.heap.size) wb w' → w'.cell? ⟨wq.heap.size + 1, c, none⟩ = some (.slice LA ln lc) ∧ Row w' (Lt w3.heap.size) LA (flt msC (two old now c))) := Lib.hid fun c hc => by
            have hkp : ∀ b, Lt w3.heap.size b → b < wb.heap.size ∧ ¬ b = wq.heap.size := fun b hb => by
              have hb : b < w3.heap.size := hb
              omega
            obtain rfl | rfl : c = 0 ∨ c = 1 := by omega
            · exact ⟨OA, n, oc, HN.out.1, fun w' hk => ⟨(Lib.cell_of_heap (hk.heap hx12.2 (by omega)) _).trans rfl, (HRO.out.keep (kept_below hb3b)).keep (hk.kept hkp)⟩⟩
            · exact ⟨NA, p, nc, HN.out.2, fun w' hk => ⟨(Lib.cell_of_heap (hk.heap hx12.2 (by omega)) _).trans rfl, (HRN.out.keep (kept_below hb3b)).keep (hk.kept hkp)⟩⟩
          have HX1 := Lib.hid hx1
          have HWB := Lib.hid hwb
          have HBB := Lib.hid hbb
          have HSB := Lib.hid hsb
          have HB3Q := Lib.hid hb3q
          clear hκ hwb hbb hx12 hx1 hsb hb3b hb3q
          go_wp2_with fail
          rw [← HWB.out]
          go_loopw [55] (fun i wr => ∃ c : Nat, c ≤ 2 ∧ i = .int .i64 c ∧ Kp (fun y => y = wq.heap.size) wb wr ∧ wr.heap[wq.heap.size]? = some (.cells (boxA (cnts κ old now c 0)) 52 (0, 0))) (fun i _ => 2 - (intOf i).toNat)
          case atStart => exact ⟨0, by omega, rfl, Kp.refl _ _, HX1.out⟩
          case round =>
            obtain ⟨c, hc2, rfl, hKc, hxc⟩ := hrel
            by_cases hltc : c < 2
            · obtain ⟨wc, hwc⟩ : ∃ wc, wc = wr := ⟨_, rfl⟩
              rw [← hwc] at hKc hxc ⊢
              clear hwc
              obtain ⟨LA, ln, lc, hln, hit⟩ := HIT.out c hltc
              have p0 := (hit wc hKc).1
              have HITC := Lib.hid hit
              have hic : (0 : Int) ≤ (c : Int) ∧ (c : Int) < 2 := ⟨by omega, by omega⟩
              have hln9 : ln ≤ 9 := by
                have h1 := HN.out
                unfold two at hln
                split at hln <;> omega
              have HLN := Lib.hid hln
              have HKC := Lib.hid hKc
              have HXC := Lib.hid hxc
              clear hln hKc hxc hit
              go_wp2_with fail
              clear p0
              go_loopw [62] (fun i wr => ∃ u : Nat, u ≤ ln ∧ i = .int .i64 u ∧ Kp (fun y => y = wq.heap.size) wb wr ∧ wr.heap[wq.heap.size]? = some (.cells (boxA (cnts κ old now c u)) 52 (0, 0))) (fun i _ => ln - (intOf i).toNat)
              case atStart => exact ⟨0, by omega, rfl, HKC.out, HXC.out⟩
              case round =>
                obtain ⟨u, hu, rfl, hKu, hxu⟩ := hrel
                by_cases hltu : u < ln
                · obtain ⟨wd, hwd⟩ : ∃ wd, wd = wr := ⟨_, rfl⟩
                  rw [← hwd] at hKu hxu ⊢
                  clear hwd
                  obtain ⟨m, hm⟩ : ∃ v, (two old now c)[u]? = some v := ⟨_, List.getElem?_eq_getElem (by rw [← HLN.out]; exact hltu)⟩
                  obtain ⟨ad, hA, _, a0, a1, a2⟩ := ms_at (HITC.out wd hKu).2 hm
                  have hma : 0 ≤ m.1 ∧ m.1 < 6 := by
                    have h := List.mem_of_getElem? hm
                    unfold two at h
                    split at h
                    · exact HMA.out.1 m h
                    · exact HMA.out.2 m h
                  obtain ⟨x, hx⟩ : ∃ x : Nat, (x : Int) = m.1 := ⟨m.1.toNat, by omega⟩
                  rw [← hx] at a0
                  have hiu : (0 : Int) ≤ (u : Int) ∧ (u : Int) < (ln : Int) := ⟨by omega, by omega⟩
                  have hix : (0 : Int) ≤ (x : Int) ∧ (x : Int) < 6 := ⟨by omega, by omega⟩
                  have hx6 : x < 6 := by omega
                  obtain ⟨wm, hwm⟩ : ∃ wm, wm = wd.alloc (.cells #[.int .i64 (x : Nat), .int .i64 m.2.1, sv m.2.2] 40) := ⟨_, rfl⟩
                  have hxm : wm.heap[wd.heap.size]? = some (.cells #[.int .i64 (x : Nat), .int .i64 m.2.1, sv m.2.2] 40 (0, 0)) := by rw [hwm]; exact alloc1 _ _
                  have hKm : Kp (fun y => y = wq.heap.size) wb wm := by rw [hwm]; exact hKu.alloc _
                  have hsm : wm.heap.size = wd.heap.size + 1 := by rw [hwm]; simp
                  have hlx := lt_of_heap hxu
                  have hxu' : wm.heap[wq.heap.size]? = some (.cells (boxA (cnts κ old now c u)) 52 (0, 0)) := by rw [hwm, heap_alloc_old _ _ hlx]; exact hxu
                  have HWM := Lib.hid hwm
                  have HXM := Lib.hid hxm
                  have HKM := Lib.hid hKm
                  have HXU := Lib.hid hxu'
                  have HMM := Lib.hid hm
                  have HX := Lib.hid hx
                  rw [hA]
                  have HAD := Lib.hid hA
                  clear hwm hxm hKm hxu hxu' hm hx hA hKu hma
                  by_cases hcd : m.2.1 = (k : Int)
                  · by_cases htt : m.2.2 = tx
                    · have hmk : m.2 = κ := by rw [HK.out]; exact Prod.ext hcd htt
                      have hq1 : (m.2.1 == (k : Int)) = true := by simp [hcd]
                      have hq2 : (m.2.2 == tx) = true := by simp [htt]
                      have hq3 : decide (m.2.1 = (k : Int)) = true := by simp [hcd]
                      have hq4 : decide (m.2.2 = tx) = true := by simp [htt]
                      have hq5 : ((bs m.2.2).toList == (bs tx).toList) = true := by simp [bs_toList, htt]
                      have HMK := Lib.hid hmk
                      clear hcd htt hmk
                      go_wp2_with fail
                      obtain ⟨q, hq⟩ : ∃ q, q = cnts κ old now c u c x := ⟨_, rfl⟩
                      have hq9 : q ≤ 9 := by rw [hq]; exact cnts_le κ old now (by have := HN.out; omega) (by have := HN.out; omega) _ _ _ _
                      have hxq := box_at (cnts κ old now c u) hltc hx6
                      rw [← hq] at hxq
                      have HC : Hid (AtCells [(⟨wd.heap.size, 0, none⟩, .int .i64 (x : Nat)), (⟨wq.heap.size, c * 6 + x, none⟩, .int .i64 (q : Nat))] wm) := Lib.hid ⟨(Lib.cell_of_heap HXM.out _).trans rfl, (Lib.cell_of_heap HXU.out _).trans hxq, trivial⟩
                      have HQ := Lib.hid hq
                      clear hq hxq
                      rw [← HWM.out]
                      refine wp_region_mix (AtCells [(⟨wd.heap.size, 0, none⟩, .int .i64 (x : Nat)), (⟨wq.heap.size, c * 6 + x, none⟩, .int .i64 (q : Nat))]) [(true, 0), (true, 1), (true, 2), (true, 3), (true, 4), (true, 5), (true, 6), (true, 7), (true, 8)] [9] (by kernel_rfl) (by kernel_rfl) ?sm ?hm
                      case sm => exact HC.out.below (Below.refl _ wm).drew
                      case hm =>
                      simp only [mixAt, List.filterMap_cons, List.filterMap_nil, List.getElem?_toArray, List.getElem?_cons_succ, List.getElem?_cons_zero, Option.map_some]
                      refine wpMix_load ?vta0 rfl (fun w' hS => ?yta0) ?kta0
                      case yta0 =>
                        obtain ⟨g0, g1, _⟩ := hS
                        go_simp
                        try rfl
                      case kta0 =>
                      go_simp
                      refine wpMix_load ?vta1 rfl (fun w' hS => ?yta1) ?kta1
                      case yta1 =>
                        obtain ⟨g0, g1, _⟩ := hS
                        go_simp
                        try rfl
                      case kta1 =>
                      go_simp
                      refine wpMix_load ?vta2 rfl (fun w' hS => ?yta2) ?kta2
                      case yta2 =>
                        obtain ⟨g0, g1, _⟩ := hS
                        go_simp
                        try rfl
                      case kta2 =>
                      go_simp
                      refine wpMix_load ?vta3 rfl (fun w' hS => ?yta3) ?kta3
                      case yta3 =>
                        obtain ⟨g0, g1, _⟩ := hS
                        go_simp
                        try rfl
                      case kta3 =>
                      go_simp
                      refine wpMix_load ?vta4 rfl (fun w' hS => ?yta4) ?kta4
                      case yta4 =>
                        obtain ⟨g0, g1, _⟩ := hS
                        go_simp
                        try rfl
                      case kta4 =>
                      go_simp
                      refine wpMix_load ?vta5 rfl (fun w' hS => ?yta5) ?kta5
                      case yta5 =>
                        obtain ⟨g0, g1, _⟩ := hS
                        go_simp
                        try rfl
                      case kta5 =>
                      go_simp
                      refine wpMix_load ?vta6 rfl (fun w' hS => ?yta6) ?kta6
                      case yta6 =>
                        obtain ⟨g0, g1, _⟩ := hS
                        go_simp
                        try rfl
                      case kta6 =>
                      go_simp
                      refine wpMix_load ?vta7 rfl (fun w' hS => ?yta7) ?kta7
                      case yta7 =>
                        obtain ⟨g0, g1, _⟩ := hS
                        go_simp
                        try rfl
                      case kta7 =>
                      go_simp
                      refine wpMix_load ?vta8 rfl (fun w' hS => ?yta8) ?kta8
                      case yta8 =>
                        obtain ⟨g0, g1, _⟩ := hS
                        go_simp
                        try rfl
                      case kta8 =>
                      go_simp
                      refine wpMix_nil ?_
                      simp only [opsAt, List.filterMap_cons, List.filterMap_nil, List.getElem?_toArray, List.getElem?_cons_succ, List.getElem?_cons_zero]
                      obtain ⟨wn, hwn⟩ : ∃ wn, wn = wm.drew := ⟨_, rfl⟩
                      rw [← hwn]
                      have hxn : wn.heap[wq.heap.size]? = some (.cells (boxA (cnts κ old now c u)) 52 (0, 0)) := by rw [hwn]; exact HXU.out
                      have hkn : Kp (fun y => y = wq.heap.size) wb wn := by rw [hwn]; exact HKM.out.drew
                      have s0 : wn.cell? ⟨wq.heap.size, c * 6 + x, none⟩ = some (.int .i64 (q : Nat)) := (Lib.cell_of_heap hxn _).trans (by rw [HQ.out]; exact box_at _ hltc hx6)
                      have s1 : wn.frozen? ⟨wq.heap.size, c * 6 + x, none⟩ = false := Lib.frozen_of_heap hxn _
                      have hkz : Kp (fun y => y = wq.heap.size) wb (wn.setCell ⟨wq.heap.size, c * 6 + x, none⟩ (.int .i64 ((q : Nat) + 1))) := hkn.setCell (fun _ => rfl) _
                      have hxz : (wn.setCell ⟨wq.heap.size, c * 6 + x, none⟩ (.int .i64 ((q : Nat) + 1))).heap[wq.heap.size]? = some (.cells (boxA (cnts κ old now c (u + 1))) 52 (0, 0)) := by
                        rw [setCell_heap hxn]
                        have e : (.int .i64 ((q : Nat) + 1) : Value) = .int .i64 ((q + 1 : Nat) : Int) := by rfl
                        rw [e, box_set _ (q + 1) hltc hx6, box_congr (h := cnts κ old now c (u + 1)) fun j n _ _ => cnts_yes κ old now HMM.out HMK.out HX.out j n, HQ.out]
                      have HKZ := Lib.hid hkz
                      have HXZ := Lib.hid hxz
                      clear hkz hxz hxn hkn hwn
                      go_wp2
                      refine NoPanic.normal ?_
                      go_wp2_with fail
                      first | go_roundw | refine ⟨?rel, ?measure⟩
                      case rel => exact ⟨u + 1, by omega, by go_num, HKZ.out, HXZ.out⟩
                      case measure => simp [intOf]; omega
                    · have hmk : ¬ m.2 = κ := fun h => htt (by rw [HK.out] at h; exact congrArg Prod.snd h)
                      have hq1 : (m.2.1 == (k : Int)) = true := by simp [hcd]
                      have hq2 : (m.2.2 == tx) = false := by simp [htt]
                      have hq3 : decide (m.2.1 = (k : Int)) = true := by simp [hcd]
                      have hq4 : decide (m.2.2 = tx) = false := by simp [htt]
                      have hq5 : ((bs m.2.2).toList == (bs tx).toList) = false := by simp [bs_toList, htt]
                      have HMK := Lib.hid hmk
                      clear hcd htt hmk
                      go_wp2_with fail
                      rw [← HWM.out]
                      first | go_roundw | refine ⟨?rel, ?measure⟩
                      case rel => exact ⟨u + 1, by omega, by go_num, HKM.out, by rw [cnts_no κ old now HMM.out HMK.out]; exact HXU.out⟩
                      case measure => simp [intOf]; omega
                  · have hmk : ¬ m.2 = κ := fun h => hcd (by rw [HK.out] at h; exact congrArg Prod.fst h)
                    have hq1 : (m.2.1 == (k : Int)) = false := by simp [hcd]
                    have hq3 : decide (m.2.1 = (k : Int)) = false := by simp [hcd]
                    have HMK := Lib.hid hmk
                    clear hcd hmk
                    go_wp2_with fail
                    rw [← HWM.out]
                    first | go_roundw | refine ⟨?rel, ?measure⟩
                    case rel => exact ⟨u + 1, by omega, by go_num, HKM.out, by rw [cnts_no κ old now HMM.out HMK.out]; exact HXU.out⟩
                    case measure => simp [intOf]; omega
                · obtain rfl : u = ln := by omega
                  have hnx := cnts_next κ old now c
                  rw [← HLN.out] at hnx
                  rw [hnx] at hxu
                  have HXU := Lib.hid hxu
                  have HKU := Lib.hid hKu
                  clear hnx hxu hKu hltu
                  go_wp2_with fail
                  first | go_roundw | refine ⟨?rel, ?measure⟩
                  case rel => exact ⟨c + 1, by omega, by go_num, HKU.out, HXU.out⟩
                  case measure => simp [intOf]; omega
            · have hce : c = 2 := by omega
              rw [hce] at hxc
              have hq0 : decide ((c : Int) < 2) = false := by simp; omega
              have HKC := Lib.hid hKc
              have HXC := Lib.hid hxc
              clear hKc hxc hltc hce
              go_wp2_with fail
              have hfn : ∀ e : Nat, e < 6 → cnts κ old now 2 0 0 e = old.count ((e : Int), κ) ∧ cnts κ old now 2 0 1 e = now.count ((e : Int), κ) := fun e _ => ⟨rfl, rfl⟩
              obtain ⟨f, hf⟩ : ∃ f, f = cnts κ old now 2 0 0 := ⟨_, rfl⟩
              obtain ⟨g, hg⟩ : ∃ g, g = cnts κ old now 2 0 1 := ⟨_, rfl⟩
              have hf9 : ∀ e, f e ≤ 9 := fun e => by rw [hf]; exact cnts_le κ old now (by have := HN.out; omega) (by have := HN.out; omega) _ _ _ _
              have hg9 : ∀ e, g e ≤ 9 := fun e => by rw [hg]; exact cnts_le κ old now (by have := HN.out; omega) (by have := HN.out; omega) _ _ _ _
              have HFG := Lib.hid (And.intro hf hg)
              have HF9 := Lib.hid (And.intro hf9 hg9)
              obtain ⟨we, hwe⟩ : ∃ we, we = wr := ⟨_, rfl⟩
              rw [← hwe] at HKC HXC ⊢
              clear hwe hfn hf hg hf9 hg9
              go_loopw [87, 15, 16] (fun i a b wr => ∃ e : Nat, e ≤ 6 ∧ i = .int .i64 e ∧ a = .int .i64 (offD f g e : Nat) ∧ b = .int .i64 (offD g f e : Nat) ∧ Below we.heap.size we wr) (fun i _ _ _ => 6 - (intOf i).toNat)
              case atStart => exact ⟨0, by omega, rfl, rfl, rfl, Below.refl _ _⟩
              case round =>
                obtain ⟨e, he, rfl, rfl, rfl, hBe⟩ := hrel
                have hxe := (hBe.block _ (lt_of_heap HXC.out)).trans HXC.out
                by_cases hlte : e < 6
                · obtain ⟨wt, hwt⟩ : ∃ wt, wt = wr := ⟨_, rfl⟩
                  rw [← hwt] at hBe hxe ⊢
                  clear hwt
                  have hie : (0 : Int) ≤ (e : Int) ∧ (e : Int) < 6 := ⟨by omega, by omega⟩
                  obtain ⟨x, hx⟩ : ∃ x, x = f e := ⟨_, rfl⟩
                  obtain ⟨y, hy⟩ : ∃ y, y = g e := ⟨_, rfl⟩
                  have hx9 : x ≤ 9 := by rw [hx]; exact HF9.out.1 e
                  have hy9 : y ≤ 9 := by rw [hy]; exact HF9.out.2 e
                  have c0 : wt.cell? ⟨wq.heap.size, 0 * 6 + e, none⟩ = some (.int .i64 (x : Nat)) := (Lib.cell_of_heap hxe _).trans (by rw [hx, HFG.out.1]; exact box_at _ (by decide) hlte)
                  have c1 : wt.cell? ⟨wq.heap.size, 1 * 6 + e, none⟩ = some (.int .i64 (y : Nat)) := (Lib.cell_of_heap hxe _).trans (by rw [hy, HFG.out.2]; exact box_at _ (by decide) hlte)
                  rw [show 0 * 6 + e = e by omega] at c0
                  rw [show 1 * 6 + e = 6 + e by omega] at c1
                  obtain ⟨a, ha⟩ : ∃ a, a = offD f g e := ⟨_, rfl⟩
                  obtain ⟨b, hb⟩ : ∃ b, b = offD g f e := ⟨_, rfl⟩
                  have ha54 : a ≤ 54 := by rw [ha]; exact Nat.le_trans (offD_le f g HF9.out.1 e) (by omega)
                  have hb54 : b ≤ 54 := by rw [hb]; exact Nat.le_trans (offD_le g f HF9.out.2 e) (by omega)
                  rw [← ha, ← hb]
                  obtain ⟨d, hd⟩ : ∃ d, d = min x y := ⟨_, rfl⟩
                  have hdx : d ≤ x := by omega
                  have hdy : d ≤ y := by omega
                  have hmin : min (x : Int) (y : Int) = (d : Int) := by omega
                  have HD := Lib.hid hd
                  clear hd
                  have HA := Lib.hid (And.intro ha hb)
                  have HXY := Lib.hid (And.intro hx hy)
                  have HBE := Lib.hid hBe
                  have HC : Hid (AtCells [(⟨wq.heap.size, e, none⟩, .int .i64 (x : Nat)), (⟨wq.heap.size, 6 + e, none⟩, .int .i64 (y : Nat))] wt) := Lib.hid ⟨c0, c1, trivial⟩
                  clear hx hy ha hb hBe hxe c0 c1
                  go_wp2_with fail
                  refine wp_region_mix (AtCells [(⟨wq.heap.size, e, none⟩, .int .i64 (x : Nat)), (⟨wq.heap.size, 6 + e, none⟩, .int .i64 (y : Nat))]) [(true, 0), (true, 1), (true, 2), (true, 3), (true, 4), (true, 5), (true, 6), (true, 7), (true, 8)] [9] (by kernel_rfl) (by kernel_rfl) ?sn ?hn
                  case sn => exact HC.out.below (Below.refl _ wt).drew
                  case hn =>
                  simp only [mixAt, List.filterMap_cons, List.filterMap_nil, List.getElem?_toArray, List.getElem?_cons_succ, List.getElem?_cons_zero, Option.map_some]
                  refine wpMix_load ?vtb0 rfl (fun w' hS => ?ytb0) ?ktb0
                  case ytb0 =>
                    obtain ⟨g0, g1, _⟩ := hS
                    go_simp
                    try rfl
                  case ktb0 =>
                  go_simp
                  refine wpMix_load ?vtb1 rfl (fun w' hS => ?ytb1) ?ktb1
                  case ytb1 =>
                    obtain ⟨g0, g1, _⟩ := hS
                    go_simp
                    try rfl
                  case ktb1 =>
                  go_simp
                  refine wpMix_load ?vtb2 rfl (fun w' hS => ?ytb2) ?ktb2
                  case ytb2 =>
                    obtain ⟨g0, g1, _⟩ := hS
                    go_simp
                    try rfl
                  case ktb2 =>
                  go_simp
                  refine wpMix_load ?vtb3 rfl (fun w' hS => ?ytb3) ?ktb3
                  case ytb3 =>
                    obtain ⟨g0, g1, _⟩ := hS
                    go_simp
                    try rfl
                  case ktb3 =>
                  go_simp
                  refine wpMix_load ?vtb4 rfl (fun w' hS => ?ytb4) ?ktb4
                  case ytb4 =>
                    obtain ⟨g0, g1, _⟩ := hS
                    go_simp
                    try rfl
                  case ktb4 =>
                  go_simp
                  refine wpMix_load ?vtb5 rfl (fun w' hS => ?ytb5) ?ktb5
                  case ytb5 =>
                    obtain ⟨g0, g1, _⟩ := hS
                    go_simp
                    try rfl
                  case ktb5 =>
                  go_simp
                  refine wpMix_load ?vtb6 rfl (fun w' hS => ?ytb6) ?ktb6
                  case ytb6 =>
                    obtain ⟨g0, g1, _⟩ := hS
                    go_simp
                    try rfl
                  case ktb6 =>
                  go_simp
                  refine wpMix_load ?vtb7 rfl (fun w' hS => ?ytb7) ?ktb7
                  case ytb7 =>
                    obtain ⟨g0, g1, _⟩ := hS
                    go_simp
                    try rfl
                  case ktb7 =>
                  go_simp
                  refine wpMix_load ?vtb8 rfl (fun w' hS => ?ytb8) ?ktb8
                  case ytb8 =>
                    obtain ⟨g0, g1, _⟩ := hS
                    go_simp
                    try rfl
                  case ktb8 =>
                  go_simp
                  refine wpMix_nil ?_
                  simp only [opsAt, List.filterMap_cons, List.filterMap_nil, List.getElem?_toArray, List.getElem?_cons_succ, List.getElem?_cons_zero]
                  go_wp2
                  refine NoPanic.normal ?_
                  have HC2 := Lib.hid (HC.out.below ((Below.refl _ wt).drew))
                  go_wp2_with fail
                  refine wp_region_mix (AtCells [(⟨wq.heap.size, e, none⟩, .int .i64 (x : Nat)), (⟨wq.heap.size, 6 + e, none⟩, .int .i64 (y : Nat))]) [(true, 0), (true, 1), (true, 2), (true, 3), (true, 4), (true, 5), (true, 6), (true, 7), (true, 8), (true, 9), (true, 10), (true, 11), (true, 12), (true, 13), (true, 14), (true, 15), (false, 16)] [17] (by kernel_rfl) (by kernel_rfl) ?sp ?hp
                  case sp => exact HC2.out.below (Below.refl _ wt.drew).drew
                  case hp =>
                  simp only [mixAt, List.filterMap_cons, List.filterMap_nil, List.getElem?_toArray, List.getElem?_cons_succ, List.getElem?_cons_zero, Option.map_some]
                  refine wpMix_load ?vtc0 rfl (fun w' hS => ?ytc0) ?ktc0
                  case ytc0 =>
                    obtain ⟨g0, g1, _⟩ := hS
                    go_simp
                    try rfl
                  case ktc0 =>
                  go_simp
                  refine wpMix_load ?vtc1 rfl (fun w' hS => ?ytc1) ?ktc1
                  case ytc1 =>
                    obtain ⟨g0, g1, _⟩ := hS
                    go_simp
                    try rfl
                  case ktc1 =>
                  go_simp
                  refine wpMix_load ?vtc2 rfl (fun w' hS => ?ytc2) ?ktc2
                  case ytc2 =>
                    obtain ⟨g0, g1, _⟩ := hS
                    go_simp
                    try rfl
                  case ktc2 =>
                  go_simp
                  refine wpMix_load ?vtc3 rfl (fun w' hS => ?ytc3) ?ktc3
                  case ytc3 =>
                    obtain ⟨g0, g1, _⟩ := hS
                    go_simp
                    try rfl
                  case ktc3 =>
                  go_simp
                  refine wpMix_load ?vtc4 rfl (fun w' hS => ?ytc4) ?ktc4
                  case ytc4 =>
                    obtain ⟨g0, g1, _⟩ := hS
                    go_simp
                    try rfl
                  case ktc4 =>
                  go_simp
                  refine wpMix_load ?vtc5 rfl (fun w' hS => ?ytc5) ?ktc5
                  case ytc5 =>
                    obtain ⟨g0, g1, _⟩ := hS
                    go_simp
                    try rfl
                  case ktc5 =>
                  go_simp
                  refine wpMix_load ?vtc6 rfl (fun w' hS => ?ytc6) ?ktc6
                  case ytc6 =>
                    obtain ⟨g0, g1, _⟩ := hS
                    go_simp
                    try rfl
                  case ktc6 =>
                  go_simp
                  refine wpMix_load ?vtc7 rfl (fun w' hS => ?ytc7) ?ktc7
                  case ytc7 =>
                    obtain ⟨g0, g1, _⟩ := hS
                    go_simp
                    try rfl
                  case ktc7 =>
                  go_simp
                  refine wpMix_load ?vtc8 rfl (fun w' hS => ?ytc8) ?ktc8
                  case ytc8 =>
                    obtain ⟨g0, g1, _⟩ := hS
                    go_simp
                    try rfl
                  case ktc8 =>
                  go_simp
                  refine wpMix_load ?vtc9 rfl (fun w' hS => ?ytc9) ?ktc9
                  case ytc9 =>
                    obtain ⟨g0, g1, _⟩ := hS
                    go_simp
                    try rfl
                  case ktc9 =>
                  go_simp
                  refine wpMix_load ?vtc10 rfl (fun w' hS => ?ytc10) ?ktc10
                  case ytc10 =>
                    obtain ⟨g0, g1, _⟩ := hS
                    go_simp
                    try rfl
                  case ktc10 =>
                  go_simp
                  refine wpMix_load ?vtc11 rfl (fun w' hS => ?ytc11) ?ktc11
                  case ytc11 =>
                    obtain ⟨g0, g1, _⟩ := hS
                    go_simp
                    try rfl
                  case ktc11 =>
                  go_simp
                  refine wpMix_load ?vtc12 rfl (fun w' hS => ?ytc12) ?ktc12
                  case ytc12 =>
                    obtain ⟨g0, g1, _⟩ := hS
                    go_simp
                    try rfl
                  case ktc12 =>
                  go_simp
                  refine wpMix_load ?vtc13 rfl (fun w' hS => ?ytc13) ?ktc13
                  case ytc13 =>
                    obtain ⟨g0, g1, _⟩ := hS
                    go_simp
                    try rfl
                  case ktc13 =>
                  go_simp
                  refine wpMix_load ?vtc14 rfl (fun w' hS => ?ytc14) ?ktc14
                  case ytc14 =>
                    obtain ⟨g0, g1, _⟩ := hS
                    go_simp
                    try rfl
                  case ktc14 =>
                  go_simp
                  refine wpMix_load ?vtc15 rfl (fun w' hS => ?ytc15) ?ktc15
                  case ytc15 =>
                    obtain ⟨g0, g1, _⟩ := hS
                    go_simp
                    try rfl
                  case ktc15 =>
                  go_simp
                  refine wpMix_keep rfl ?_
                  go_simp
                  refine ⟨HC2.out.below (Below.refl _ wt.drew).drew, wpMix_nil ?_⟩
                  simp only [opsAt, List.filterMap_cons, List.filterMap_nil, List.getElem?_toArray, List.getElem?_cons_succ, List.getElem?_cons_zero]
                  go_wp2
                  refine NoPanic.normal ?_
                  have HBD := Lib.hid (HBE.out.trans ((((Below.refl wt.heap.size wt).drew).drew).mono HBE.out.size))
                  go_wp2_with fail
                  first | go_roundw | refine ⟨?rel, ?measure⟩
                  case rel =>
                    refine ⟨e + 1, by omega, by go_num, ?_, ?_, HBD.out⟩
                    · rw [offD, ← HA.out.1, ← HXY.out.1, ← HXY.out.2, ← HD.out, show ((a + x - d : Nat) : Int) = (a : Int) + (x : Int) - (d : Int) by omega]
                    · rw [offD, ← HA.out.2, ← HXY.out.1, ← HXY.out.2, Nat.min_comm, ← HD.out, show ((b + y - d : Nat) : Int) = (b : Int) + (y : Int) - (d : Int) by omega]
                  case measure => simp [intOf]; omega
                · have hee : e = 6 := by omega
                  have hq0 : decide ((e : Int) < 6) = false := by simp; omega
                  have hoa := offD_all κ old now HMA.out.1 f g (fun n => by rw [HFG.out.1]; rfl) (fun n => by rw [HFG.out.2]; rfl)
                  have hob := offD_all κ now old HMA.out.2 g f (fun n => by rw [HFG.out.2]; rfl) (fun n => by rw [HFG.out.1]; rfl)
                  have ha54 : offD f g e ≤ 54 := Nat.le_trans (offD_le f g HF9.out.1 e) (by omega)
                  have hb54 : offD g f e ≤ 54 := Nat.le_trans (offD_le g f HF9.out.2 e) (by omega)
                  rw [← hee] at hoa hob
                  obtain ⟨a, ha⟩ : ∃ a, a = offD f g e := ⟨_, rfl⟩
                  obtain ⟨b, hb⟩ : ∃ b, b = offD g f e := ⟨_, rfl⟩
                  rw [← ha] at hoa ha54 ⊢
                  rw [← hb] at hob hb54 ⊢
                  have HOA := Lib.hid (And.intro hoa hob)
                  have hkr : Kp (fun y => y = wq.heap.size) wb wr := HKC.out.below hBe
                  have hbqr : Below wq.heap.size wq wr := by
                    have h := HSB.out
                    exact ⟨hkr.os.trans HBB.out.os, hkr.tape.trans HBB.out.tape, hkr.output.trans HBB.out.output, Nat.le_trans HBB.out.size hkr.size, fun i hi => (hkr.block i (by omega) (by omega)).trans (HBB.out.block i hi)⟩
                  have hb5q : Below w5.heap.size w5 wq := HB56.out.trans ((HBL.out.trans (HBS.out.mono HBL.out.size)).mono HB56.out.size)
                  have hb5r := hb5q.trans (hbqr.mono hb5q.size)
                  have hblr := HBS.out.trans (hbqr.mono HBS.out.size)
                  have HB5R := Lib.hid hb5r
                  have HBLR := Lib.hid hblr
                  have hx6 := (hblr.block _ (by have := lt_of_heap HX6.out; have := HB56.out.size; have := HBL.out.size; omega)).trans ((HBL.out.block _ (lt_of_heap HX6.out)).trans HX6.out)
                  have x0 : wr.cell? ⟨w5.heap.size, 0, none⟩ = some (.slice X1 xg xc1) := (Lib.cell_of_heap hx6 _).trans rfl
                  have HX6R := Lib.hid hx6
                  obtain ⟨wx, hwx⟩ : ∃ wx, wx = wr := ⟨_, rfl⟩
                  rw [← hwx] at HB5R HBLR HX6R x0 ⊢
                  clear ha hb hoa hob hxe hBe hlte hee hkr hbqr hb5q hb5r hblr hx6 hwx
                  go_wp2_with fail
                  clear x0
                  go_loopw [119, 19] (fun i v wr => ∃ t : Nat, t ≤ xg ∧ i = .int .i64 t ∧ v = .int .i64 ((fk κ (x.gone.take t)).length : Nat) ∧ Below wx.heap.size wx wr) (fun i _ _ => xg - (intOf i).toNat)
                  case atStart => exact ⟨0, by omega, rfl, rfl, Below.refl _ _⟩
                  case round =>
                    obtain ⟨t, ht, rfl, rfl, hBt⟩ := hrel
                    have h5t := HB5R.out.trans (hBt.mono HB5R.out.size)
                    by_cases hltt : t < xg
                    · obtain ⟨wy, hwy⟩ : ∃ wy, wy = wr := ⟨_, rfl⟩
                      rw [← hwy] at hBt h5t ⊢
                      clear hwy
                      obtain ⟨m, hm⟩ : ∃ v, x.gone[t]? = some v := ⟨_, List.getElem?_eq_getElem (by rw [← HXL.out.1]; exact hltt)⟩
                      obtain ⟨ad, hA, _, a0, a1, a2⟩ := ms_at (HXR.out wy h5t).1 hm
                      have hit : (0 : Int) ≤ (t : Int) ∧ (t : Int) < (xg : Int) := ⟨by omega, by omega⟩
                      have hft := fk_take κ hm
                      have hfw : (fk κ (x.gone.take t)).length ≤ 9 := Nat.le_trans (fk_few κ x.gone t) (by rw [← HXL.out.1]; exact hla)
                      obtain ⟨q, hq⟩ : ∃ q, q = (fk κ (x.gone.take t)).length := ⟨_, rfl⟩
                      rw [← hq] at hft hfw ⊢
                      have HQ := Lib.hid hq
                      rw [hA]
                      have HAD := Lib.hid hA
                      have HBN := Lib.hid (hBt.trans (((Below.refl wy.heap.size wy).alloc (Nat.le_refl _) (.cells #[.int .i64 m.1, .int .i64 m.2.1, sv m.2.2] 40)).mono hBt.size))
                      clear hm hA hq h5t hBt
                      by_cases hcd : m.2.1 = (k : Int)
                      · by_cases htt : m.2.2 = tx
                        · have hmk : m.2 = κ := by rw [HK.out]; exact Prod.ext hcd htt
                          have hq1 : (m.2.1 == (k : Int)) = true := by simp [hcd]
                          have hq2 : (m.2.2 == tx) = true := by simp [htt]
                          have hq3 : decide (m.2.1 = (k : Int)) = true := by simp [hcd]
                          have hq4 : decide (m.2.2 = tx) = true := by simp [htt]
                          have hq5 : ((bs m.2.2).toList == (bs tx).toList) = true := by simp [bs_toList, htt]
                          rw [if_pos hmk] at hft
                          have HFT := Lib.hid hft
                          clear hcd htt hmk hft
                          go_wp2_with fail
                          try rw [← HAD.out]
                          first | go_roundw | refine ⟨?rel, ?measure⟩
                          case rel => exact ⟨t + 1, by omega, by go_num, by rw [HFT.out]; rfl, HBN.out⟩
                          case measure => simp [intOf]; omega
                        · have hmk : ¬ m.2 = κ := fun h => htt (by rw [HK.out] at h; exact congrArg Prod.snd h)
                          have hq1 : (m.2.1 == (k : Int)) = true := by simp [hcd]
                          have hq2 : (m.2.2 == tx) = false := by simp [htt]
                          have hq3 : decide (m.2.1 = (k : Int)) = true := by simp [hcd]
                          have hq4 : decide (m.2.2 = tx) = false := by simp [htt]
                          have hq5 : ((bs m.2.2).toList == (bs tx).toList) = false := by simp [bs_toList, htt]
                          rw [if_neg hmk] at hft
                          have HFT := Lib.hid hft
                          clear hcd htt hmk hft
                          go_wp2_with fail
                          try rw [← HAD.out]
                          first | go_roundw | refine ⟨?rel, ?measure⟩
                          case rel => exact ⟨t + 1, by omega, by go_num, by rw [HFT.out]; rfl, HBN.out⟩
                          case measure => simp [intOf]; omega
                      · have hmk : ¬ m.2 = κ := fun h => hcd (by rw [HK.out] at h; exact congrArg Prod.fst h)
                        have hq1 : (m.2.1 == (k : Int)) = false := by simp [hcd]
                        have hq3 : decide (m.2.1 = (k : Int)) = false := by simp [hcd]
                        rw [if_neg hmk] at hft
                        have HFT := Lib.hid hft
                        clear hcd hmk hft
                        go_wp2_with fail
                        try rw [← HAD.out]
                        first | go_roundw | refine ⟨?rel, ?measure⟩
                        case rel => exact ⟨t + 1, by omega, by go_num, by rw [HFT.out]; rfl, HBN.out⟩
                        case measure => simp [intOf]; omega
                    · obtain rfl : t = xg := by omega
                      have hfa : (fk κ (x.gone.take t)).length = (fk κ x.gone).length := by rw [List.take_of_length_le (Nat.le_of_eq HXL.out.1.symm)]
                      have hfw : (fk κ (x.gone.take t)).length ≤ 9 := Nat.le_trans (fk_few κ x.gone t) (by rw [← HXL.out.1]; exact hla)
                      obtain ⟨qa, hqn⟩ : ∃ q, q = (fk κ (x.gone.take t)).length := ⟨_, rfl⟩
                      rw [← hqn] at hfa hfw ⊢
                      have HFAa := Lib.hid hfa
                      have HB5A := Lib.hid h5t
                      have hx6 := (hBt.block _ (lt_of_heap HX6R.out)).trans HX6R.out
                      obtain ⟨wya, hwy⟩ : ∃ wy, wy = wr := ⟨_, rfl⟩
                      rw [← hwy] at hx6 HB5A hBt ⊢
                      have HSTa := Lib.hid hBt
                      have HX6A := Lib.hid hx6
                      have hqa := hfw
                      clear hfa hBt h5t hqn hltt hfw hwy
                      have x1 : wya.cell? ⟨w5.heap.size, 1, none⟩ = some (.slice X2 xc xc2) := (Lib.cell_of_heap hx6 _).trans rfl
                      clear hx6
                      go_wp2_with fail
                      clear x1
                      go_loopw [139, 20] (fun i v wr => ∃ t : Nat, t ≤ xc ∧ i = .int .i64 t ∧ v = .int .i64 ((fk κ (x.come.take t)).length : Nat) ∧ Below wya.heap.size wya wr) (fun i _ _ => xc - (intOf i).toNat)
                      case atStart => exact ⟨0, by omega, rfl, rfl, Below.refl _ _⟩
                      case round =>
                        obtain ⟨t, ht, rfl, rfl, hBt⟩ := hrel
                        have h5t := HB5A.out.trans (hBt.mono HB5A.out.size)
                        by_cases hltt : t < xc
                        · obtain ⟨wy, hwy⟩ : ∃ wy, wy = wr := ⟨_, rfl⟩
                          rw [← hwy] at hBt h5t ⊢
                          clear hwy
                          obtain ⟨m, hm⟩ : ∃ v, x.come[t]? = some v := ⟨_, List.getElem?_eq_getElem (by rw [← HXL.out.2.1]; exact hltt)⟩
                          obtain ⟨ad, hA, _, a0, a1, a2⟩ := ms_at (HXR.out wy h5t).2.1 hm
                          have hit : (0 : Int) ≤ (t : Int) ∧ (t : Int) < (xc : Int) := ⟨by omega, by omega⟩
                          have hft := fk_take κ hm
                          have hfw : (fk κ (x.come.take t)).length ≤ 9 := Nat.le_trans (fk_few κ x.come t) (by rw [← HXL.out.2.1]; exact hlb)
                          obtain ⟨q, hq⟩ : ∃ q, q = (fk κ (x.come.take t)).length := ⟨_, rfl⟩
                          rw [← hq] at hft hfw ⊢
                          have HQ := Lib.hid hq
                          rw [hA]
                          have HAD := Lib.hid hA
                          have HBN := Lib.hid (hBt.trans (((Below.refl wy.heap.size wy).alloc (Nat.le_refl _) (.cells #[.int .i64 m.1, .int .i64 m.2.1, sv m.2.2] 40)).mono hBt.size))
                          clear hm hA hq h5t hBt
                          by_cases hcd : m.2.1 = (k : Int)
                          · by_cases htt : m.2.2 = tx
                            · have hmk : m.2 = κ := by rw [HK.out]; exact Prod.ext hcd htt
                              have hq1 : (m.2.1 == (k : Int)) = true := by simp [hcd]
                              have hq2 : (m.2.2 == tx) = true := by simp [htt]
                              have hq3 : decide (m.2.1 = (k : Int)) = true := by simp [hcd]
                              have hq4 : decide (m.2.2 = tx) = true := by simp [htt]
                              have hq5 : ((bs m.2.2).toList == (bs tx).toList) = true := by simp [bs_toList, htt]
                              rw [if_pos hmk] at hft
                              have HFT := Lib.hid hft
                              clear hcd htt hmk hft
                              go_wp2_with fail
                              try rw [← HAD.out]
                              first | go_roundw | refine ⟨?rel, ?measure⟩
                              case rel => exact ⟨t + 1, by omega, by go_num, by rw [HFT.out]; rfl, HBN.out⟩
                              case measure => simp [intOf]; omega
                            · have hmk : ¬ m.2 = κ := fun h => htt (by rw [HK.out] at h; exact congrArg Prod.snd h)
                              have hq1 : (m.2.1 == (k : Int)) = true := by simp [hcd]
                              have hq2 : (m.2.2 == tx) = false := by simp [htt]
                              have hq3 : decide (m.2.1 = (k : Int)) = true := by simp [hcd]
                              have hq4 : decide (m.2.2 = tx) = false := by simp [htt]
                              have hq5 : ((bs m.2.2).toList == (bs tx).toList) = false := by simp [bs_toList, htt]
                              rw [if_neg hmk] at hft
                              have HFT := Lib.hid hft
                              clear hcd htt hmk hft
                              go_wp2_with fail
                              try rw [← HAD.out]
                              first | go_roundw | refine ⟨?rel, ?measure⟩
                              case rel => exact ⟨t + 1, by omega, by go_num, by rw [HFT.out]; rfl, HBN.out⟩
                              case measure => simp [intOf]; omega
                          · have hmk : ¬ m.2 = κ := fun h => hcd (by rw [HK.out] at h; exact congrArg Prod.fst h)
                            have hq1 : (m.2.1 == (k : Int)) = false := by simp [hcd]
                            have hq3 : decide (m.2.1 = (k : Int)) = false := by simp [hcd]
                            rw [if_neg hmk] at hft
                            have HFT := Lib.hid hft
                            clear hcd hmk hft
                            go_wp2_with fail
                            try rw [← HAD.out]
                            first | go_roundw | refine ⟨?rel, ?measure⟩
                            case rel => exact ⟨t + 1, by omega, by go_num, by rw [HFT.out]; rfl, HBN.out⟩
                            case measure => simp [intOf]; omega
                        · obtain rfl : t = xc := by omega
                          have hfa : (fk κ (x.come.take t)).length = (fk κ x.come).length := by rw [List.take_of_length_le (Nat.le_of_eq HXL.out.2.1.symm)]
                          have hfw : (fk κ (x.come.take t)).length ≤ 9 := Nat.le_trans (fk_few κ x.come t) (by rw [← HXL.out.2.1]; exact hlb)
                          obtain ⟨qb, hqn⟩ : ∃ q, q = (fk κ (x.come.take t)).length := ⟨_, rfl⟩
                          rw [← hqn] at hfa hfw ⊢
                          have HFAb := Lib.hid hfa
                          have HB5B := Lib.hid h5t
                          have hx6 := (hBt.block _ (lt_of_heap HX6A.out)).trans HX6A.out
                          obtain ⟨wyb, hwy⟩ : ∃ wy, wy = wr := ⟨_, rfl⟩
                          rw [← hwy] at hx6 HB5B hBt ⊢
                          have HSTb := Lib.hid hBt
                          have HX6B := Lib.hid hx6
                          have hqb := hfw
                          clear hfa hBt h5t hqn hltt hfw hwy
                          have x2 : wyb.cell? ⟨w5.heap.size, 2, none⟩ = some (.slice X3 xm xc3) := (Lib.cell_of_heap hx6 _).trans rfl
                          clear hx6
                          go_wp2_with fail
                          clear x2
                          go_loopw [159, 21] (fun i v wr => ∃ t : Nat, t ≤ xm ∧ i = .int .i64 t ∧ v = .int .i64 ((fk κ ((x.moved.map (·.2.2)).take t)).length : Nat) ∧ Below wyb.heap.size wyb wr) (fun i _ _ => xm - (intOf i).toNat)
                          case atStart => exact ⟨0, by omega, rfl, rfl, Below.refl _ _⟩
                          case round =>
                            obtain ⟨t, ht, rfl, rfl, hBt⟩ := hrel
                            have h5t := HB5B.out.trans (hBt.mono HB5B.out.size)
                            by_cases hltt : t < xm
                            · obtain ⟨wy, hwy⟩ : ∃ wy, wy = wr := ⟨_, rfl⟩
                              rw [← hwy] at hBt h5t ⊢
                              clear hwy
                              obtain ⟨v, hv⟩ : ∃ v, x.moved[t]? = some v := ⟨_, List.getElem?_eq_getElem (by rw [← HXL.out.2.2]; exact hltt)⟩
                              obtain ⟨ad, hA, _, a0, a1, a2, a3, a4⟩ := mv_at (HXR.out wy h5t).2.2 hv
                              obtain ⟨m, hmv⟩ : ∃ m, m = v.2.2 := ⟨_, rfl⟩
                              have hm : (x.moved.map (·.2.2))[t]? = some m := by rw [List.getElem?_map, hv, hmv]; rfl
                              rw [← hmv] at a2 a3 a4
                              have hit : (0 : Int) ≤ (t : Int) ∧ (t : Int) < (xm : Int) := ⟨by omega, by omega⟩
                              have hft := fk_take κ hm
                              have hfw : (fk κ ((x.moved.map (·.2.2)).take t)).length ≤ 9 := Nat.le_trans (fk_few κ _ t) (by rw [List.length_map, ← HXL.out.2.2]; exact hlm)
                              obtain ⟨q, hq⟩ : ∃ q, q = (fk κ ((x.moved.map (·.2.2)).take t)).length := ⟨_, rfl⟩
                              rw [← hq] at hft hfw ⊢
                              have HQ := Lib.hid hq
                              rw [hA]
                              have HAD := Lib.hid hA
                              have HBN := Lib.hid (hBt.trans (((Below.refl wy.heap.size wy).alloc (Nat.le_refl _) (.cells #[.int .i64 v.1, .int .i64 v.2.1, .int .i64 m.1, .int .i64 m.2.1, sv m.2.2] 42)).mono hBt.size))
                              clear hm hmv hv hA hq h5t hBt
                              by_cases hcd : m.2.1 = (k : Int)
                              · by_cases htt : m.2.2 = tx
                                · have hmk : m.2 = κ := by rw [HK.out]; exact Prod.ext hcd htt
                                  have hq1 : (m.2.1 == (k : Int)) = true := by simp [hcd]
                                  have hq2 : (m.2.2 == tx) = true := by simp [htt]
                                  have hq3 : decide (m.2.1 = (k : Int)) = true := by simp [hcd]
                                  have hq4 : decide (m.2.2 = tx) = true := by simp [htt]
                                  have hq5 : ((bs m.2.2).toList == (bs tx).toList) = true := by simp [bs_toList, htt]
                                  rw [if_pos hmk] at hft
                                  have HFT := Lib.hid hft
                                  clear hcd htt hmk hft
                                  go_wp2_with fail
                                  try rw [← HAD.out]
                                  first | go_roundw | refine ⟨?rel, ?measure⟩
                                  case rel => exact ⟨t + 1, by omega, by go_num, by rw [HFT.out]; rfl, HBN.out⟩
                                  case measure => simp [intOf]; omega
                                · have hmk : ¬ m.2 = κ := fun h => htt (by rw [HK.out] at h; exact congrArg Prod.snd h)
                                  have hq1 : (m.2.1 == (k : Int)) = true := by simp [hcd]
                                  have hq2 : (m.2.2 == tx) = false := by simp [htt]
                                  have hq3 : decide (m.2.1 = (k : Int)) = true := by simp [hcd]
                                  have hq4 : decide (m.2.2 = tx) = false := by simp [htt]
                                  have hq5 : ((bs m.2.2).toList == (bs tx).toList) = false := by simp [bs_toList, htt]
                                  rw [if_neg hmk] at hft
                                  have HFT := Lib.hid hft
                                  clear hcd htt hmk hft
                                  go_wp2_with fail
                                  try rw [← HAD.out]
                                  first | go_roundw | refine ⟨?rel, ?measure⟩
                                  case rel => exact ⟨t + 1, by omega, by go_num, by rw [HFT.out]; rfl, HBN.out⟩
                                  case measure => simp [intOf]; omega
                              · have hmk : ¬ m.2 = κ := fun h => hcd (by rw [HK.out] at h; exact congrArg Prod.fst h)
                                have hq1 : (m.2.1 == (k : Int)) = false := by simp [hcd]
                                have hq3 : decide (m.2.1 = (k : Int)) = false := by simp [hcd]
                                rw [if_neg hmk] at hft
                                have HFT := Lib.hid hft
                                clear hcd hmk hft
                                go_wp2_with fail
                                try rw [← HAD.out]
                                first | go_roundw | refine ⟨?rel, ?measure⟩
                                case rel => exact ⟨t + 1, by omega, by go_num, by rw [HFT.out]; rfl, HBN.out⟩
                                case measure => simp [intOf]; omega
                            · obtain rfl : t = xm := by omega
                              have hfa : (fk κ ((x.moved.map (·.2.2)).take t)).length = (fk κ (x.moved.map (·.2.2))).length := by rw [List.take_of_length_le (Nat.le_of_eq (by rw [List.length_map]; exact HXL.out.2.2.symm))]
                              have hfw : (fk κ ((x.moved.map (·.2.2)).take t)).length ≤ 9 := Nat.le_trans (fk_few κ _ t) (by rw [List.length_map, ← HXL.out.2.2]; exact hlm)
                              obtain ⟨qc, hqn⟩ : ∃ q, q = (fk κ ((x.moved.map (·.2.2)).take t)).length := ⟨_, rfl⟩
                              rw [← hqn] at hfa hfw ⊢
                              have HFAc := Lib.hid hfa
                              have HB5C := Lib.hid h5t
                              have hx6 := (hBt.block _ (lt_of_heap HX6B.out)).trans HX6B.out
                              obtain ⟨wyc, hwy⟩ : ∃ wy, wy = wr := ⟨_, rfl⟩
                              rw [← hwy] at hx6 HB5C hBt ⊢
                              have HSTc := Lib.hid hBt
                              have HX6C := Lib.hid hx6
                              have hqc := hfw
                              clear hfa hBt h5t hqn hltt hfw hwy
                              clear hx6
                              have hle := HLE.out κ
                              rw [← HFAa.out, ← HFAb.out, ← HFAc.out, ← HOA.out.1, ← HOA.out.2] at hle
                              obtain ⟨hl1, hl2, hl3⟩ := hle
                              have hz1 : min (a : Int) (b : Int) = (qc : Int) := by omega
                              have hz2 : (a : Int) - (qc : Int) = (qa : Int) := by omega
                              have hz3 : (b : Int) - (qc : Int) = (qb : Int) := by omega
                              clear hl1 hl2 hl3
                              go_wp2_with fail
                              have h1 := HBLR.out.trans (HSTa.out.mono HBLR.out.size)
                              have h2 := h1.trans (HSTb.out.mono h1.size)
                              have h3 := h2.trans (HSTc.out.mono h2.size)
                              refine ⟨⟨s + 1, by omega, by go_num, h3⟩, ?_⟩
                              simp [intOf]
                              omega
        · have hq0 : decide ((s : Int) < 2) = false := by simp; omega
          have HBZ := Lib.hid (HBL.out.trans (hBs.mono HBL.out.size))
          clear hBs
          go_wp2_with fail
          first | go_roundw | refine ⟨?rel, ?measure⟩
          case rel => exact ⟨k + 1, by omega, by omega, by go_num, HBZ.out⟩
          case measure => simp [intOf]; omega
    · obtain rfl : k = 3 := by omega
      have HBR := Lib.hid (HB56.out.trans (hB.mono HB56.out.size))
      have HAW := Lib.hid (awake_any wr)
      clear hB hlt
      go_wp2_with fail
      refine HAW.out.mono ?_
      rintro e w9 ⟨rfl, hb9⟩
      have h35 := HB3.out.trans (HB35.out.mono HB3.out.size)
      have h3r := h35.trans (HBR.out.mono h35.size)
      have HE := Lib.hid (h3r.trans (hb9.mono h3r.size))
      clear hb9 HAW h35 h3r
      go_wp2
      go_ret
      exact ⟨rfl, HE.out⟩
theorem law_least (xs : List Int) (TA : Option Addr) (tc : Nat) (w : World) (hA : Row w (Lt w.heap.size) TA (xs.map (Value.int .i64))) (hf : ∀ x ∈ xs, -9223372036854775808 ≤ x ∧ x ≤ 9223372036854775807) :
    Calls Try.prog 5 #[.slice TA xs.length tc] w fun e w' => e = .returned (.bool true) ∧ Below w.heap.size w w' := by
  by_cases h : xs.length ≤ 400
  · exact least_light xs TA tc w hA h hf
  · exact least_heavy xs.length TA tc w h
end Go.Proofs.Ytlgdminpkkhejaa
