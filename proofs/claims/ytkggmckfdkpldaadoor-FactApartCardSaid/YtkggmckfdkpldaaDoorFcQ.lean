/-
  The walk of recompileref10.Pack: the pack of a list of strings, and that of what was there nothing has turned.
  Conditions: the pack is of at most 10^9 bytes.
-/
import Derived.Test.YtkggmckfdkpldaaDoorFcD
import Derived.Test.YtkggmckfdkpldaaDoorFcT
import Derived.Lib.BufferRead
namespace Go.Proofs.YtkggmckfdkpldaaDoor
open Go.RowKit Go.Sort

set_option maxRecDepth 100000 in
theorem pk_bytes2 (l : List UInt8) : (bs (Lib.decDigits l.length) ++ { data := #[58] } ++ bs l : ByteArray).data.toList = pk l := by
  unfold pk
  simp [bs]
set_option maxRecDepth 100000 in
theorem pk_size2 (l : List UInt8) : (bs (Lib.decDigits l.length) ++ { data := #[58] } ++ bs l : ByteArray).size = (pk l).length := by
  rw [← pk_bytes2, Array.length_toList]
  rfl
set_option maxRecDepth 100000 in
theorem pk_size3 (l : List UInt8) : (bs (Lib.decDigits l.length)).size + 1 + (bs l).size = (pk l).length := by
  rw [bs_size, bs_size, pk_length]
set_option maxRecDepth 100000 in
/-- string(b) where b is a row of the call's own. -/
theorem own_convert {w : World} {base : Nat} {v : Value} {l : List UInt8} (h : w.ownsRow base 5 1 v l.length (Lib.byteCells l)) :
    (convert 83 9 v).run Tryd.prog w = .ok (sv l) w := by
  rcases h.2 with ⟨rfl, h0⟩ | ⟨g, cap, cur, rfl, _⟩
  · have : l = [] := List.eq_nil_of_length_eq_zero h0
    subst this
    exact Lib.run_convert_nil_bytes w _ _ 5 0 Tryd.underlying83 Tryd.underlying5 Tryd.underlying9
  · refine run_convert_bytes_back w _ _ 5 _ cap l Tryd.underlying83 Tryd.underlying5 Tryd.underlying9 (fun j hj => ?_)
    exact h.cells (g := g) rfl j _ (by unfold Lib.byteCells; rw [List.getElem?_map, List.getElem?_eq_getElem hj]; rfl)
set_option maxRecDepth 100000 in
theorem pk_cells2 (m l : List UInt8) : Lib.byteCells m ++ Lib.strCells (bs (Lib.decDigits l.length) ++ { data := #[58] } ++ bs l) = Lib.byteCells (m ++ pk l) := by
  rw [Lib.strCells_eq, pk_bytes2, Lib.byteCells_append]

set_option maxHeartbeats 1000000 in
set_option maxRecDepth 100000 in
theorem refPack_any (A : Option Addr) (n c B0 : Nat) (ls : List (List UInt8)) (w : World) (h : Strs w B0 A n ls) (hB0 : B0 ≤ w.heap.size) (hsz : (pack ls).length ≤ 1000000000) (hn : n ≤ 1000000000) :
    Calls Tryd.prog 48 #[.slice A n c] w fun e w' => e = .returned (.string (bs (pack ls))) ∧ Below w.heap.size w w' := by
  obtain ⟨i0, hi, hz0, hz1, hz2⟩ := info_parts infoU
  go_enter Tryd.func48, Tryd.ntmps48
  go_wp2_with fail
  go_loopw [3, 4] (fun v i wr => ∃ k : Nat, k ≤ n ∧ i = .int .i64 k ∧ wr.ownsRow w.heap.size 5 1 v (pack (ls.take k)).length (Lib.byteCells (pack (ls.take k))) ∧ Below w.heap.size w wr) (fun _ i _ => n - (intOf i).toNat)
  case atStart => exact ⟨0, Nat.zero_le _, rfl, World.ownsRow_nil _ _ _ _, Below.refl _ _⟩
  case round =>
    obtain ⟨k, hk, rfl, hown, hb⟩ := hrel
    by_cases hlt : k < n
    · obtain ⟨ad, l, rfl, _, e1, hc⟩ := (h.below (hb.mono hB0)).at_ hlt
      have hl1 : l.length ≤ (pack ls).length := pack_elem e1
      have hl2 := bs_size l
      have hl3 : (bs l).size ≤ 1000000000 := by omega
      have hpk := pack_take_succ e1
      have hple : (pack (ls.take (k + 1))).length ≤ (pack ls).length := pack_take_le ls (k + 1)
      have Hpk := Lib.hid hpk
      have hlen : (pack (ls.take k)).length + (pk l).length ≤ 1000000000 := by rw [hpk, List.length_append] at hple; omega
      have hd1 : (bs (Lib.decDigits l.length)).size ≤ 21 := by
        rw [bs_size, ← Lib.itoa_nonneg]
        exact Lib.itoa_length_le _ (by omega) (by omega)
      have k0 := cell_regrown hc
      have cD : ∀ d os, Calls Tryd.prog 49 #[.int .i64 ((bs l).size : Int)] (grow (redrawn wr d) os) fun e w'' => e = .returned (sv (Lib.decDigits l.length)) ∧ ∃ p : Regrown, w'' = grow (redrawn wr p.d) p.os := fun d os => Calls.regrown_of (by
        have := digits_any ((bs l).size : Int) (grow (redrawn wr d) os) (by omega) (by omega)
        rw [Lib.itoa_nonneg, hl2] at this
        rw [hl2]
        exact this)
      have CD := Lib.hid cD
      clear hpk hple hl1 e1 hl2 cD
      have n1 : ¬ 9223372036854775807 < (bs (Lib.decDigits l.length)).size + 1 := by omega
      have n2 : ¬ 9223372036854775807 < (bs (Lib.decDigits l.length)).size + 1 + (bs l).size := by omega
      go_wp2_with fail
      refine wp_region_below_tail 13 (by kernel_rfl) (by kernel_rfl) ?_
      simp only [List.take_succ_cons, List.take_zero, List.drop_succ_cons, List.drop_zero]
      repeat (quiet_step (exact CD.out _ _))
      refine wpQuiet_nil ?_
      intro w1 hw1
      obtain ⟨⟨dq, osq⟩, hw1⟩ := hw1
      have hb1 : Below wr.heap.size wr w1 := by rw [hw1]; exact below_regrown _ _ _
      clear hw1
      have hown1 := hown.kept (grownOfB hb1 none) (ownNone _)
      have hb2 : Below w.heap.size w w1 := hb.trans (hb1.mono hb.size)
      clear k0 hown
      go_wp2_with (at_builtin; refine Lib.wpList_append_own_string _ rfl (.tmp 11) (.tmp 23) 83 9 rfl w.heap.size 5 i0 Tryd.underlying83 Tryd.underlying9 hi hz0 hz1 hz2 u3 _ _ rfl hown1 (bs (Lib.decDigits l.length) ++ { data := #[58] } ++ bs l) rfl ?c3 ?c4 ?c5 ?_)
      case c3 => rw [pk_size2]; unfold maxLen; omega
      case c4 => rw [pk_size2]; omega
      case c5 => have := hb2.size; omega
      intro v' w2 hown2 hgrow _
      rw [pk_size3, pk_cells2] at hown2
      have hb3 : Below w.heap.size w w2 := hb2.grown hgrow hb2.size (fun g hg => (hown1.lt g hg).1)
      go_wp2
      go_roundw
      case rel => exact ⟨k + 1, by omega, by go_num, by rw [Hpk.out, List.length_append]; exact hown2, hb3⟩
      case measure => simp [intOf]; omega
    · obtain rfl : k = n := by omega
      have hk2 : ls.take k = ls := List.take_of_length_le (by rw [h.len]; omega)
      rw [hk2] at hown
      have hcv := own_convert hown
      go_wp2
      go_ret
      exact ⟨rfl, hb⟩
end Go.Proofs.YtkggmckfdkpldaaDoor
