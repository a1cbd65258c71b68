/-
  The walks of ref10.Numbers and SameNumbers.
  Conditions: ints of 64 bits; what is written is of at most 10^9 bytes.
-/
import Derived.Test.YtkggmckfdkpldaaDoorFcA
import Derived.Test.YtkggmckfdkpldaaDoorFcQ
import Derived.Test.YtkggmckfdkpldaaDoorBtwk
namespace Go.Proofs.YtkggmckfdkpldaaDoor
open Go.RowKit

set_option maxHeartbeats 1600000 in
set_option maxRecDepth 100000 in
theorem numbers_any (l : List Int) (A : Option Addr) (c : Nat) (w : World) (hT : Row w (Lt w.heap.size) A (l.map iv)) (hf : ∀ x ∈ l, I64f x) (hsz : (numsS l).length ≤ 1000000000) :
    Calls Tryd.prog 50 #[.slice A l.length c] w fun e w' => e = .returned (sv (numsS l)) ∧ Below w.heap.size w w' := by
  obtain ⟨i0, hi, hz0, hz1, hz2⟩ := info_parts infoS
  obtain ⟨n, hn⟩ : ∃ n, n = l.length := ⟨_, rfl⟩
  have hn9 : n ≤ 1000000000 := by
    have := pack_count (l.map Lib.itoa)
    rw [List.length_map] at this
    unfold numsS at hsz
    omega
  rw [← hn]
  have HN := Lib.hid hn
  have HF := Lib.hid hf
  have HT := Lib.hid hT
  have HSZ := Lib.hid hsz
  clear hn hf hT hsz
  go_enter Tryd.func50, Tryd.ntmps50
  go_wp2_with fail
  go_loopw [4, 3] (fun i v wr => ∃ k : Nat, k ≤ n ∧ i = .int .i64 k ∧ wr.ownsRow w.heap.size 9 1 v k (((l.take k).map Lib.itoa).map sv) ∧ Below w.heap.size w wr) (fun i _ _ => n - (intOf i).toNat)
  case atStart => exact ⟨0, Nat.zero_le _, rfl, World.ownsRow_nil _ _ _ _, Below.refl _ _⟩
  case round =>
    obtain ⟨k, hk, rfl, hown, hb⟩ := hrel
    have HB := Lib.hid hb
    have HO := Lib.hid hown
    by_cases hlt : k < n
    · obtain ⟨x, hx⟩ : ∃ x, l[k]? = some x := ⟨_, List.getElem?_eq_getElem (by rw [← HN.out]; exact hlt)⟩
      obtain ⟨ad, hA, hadl, a0⟩ := int_at (HT.out.keep (kept_below hb)) hx
      have hxf := HF.out x (List.mem_of_getElem? hx)
      have HX := Lib.hid hx
      have HAD := Lib.hid hA
      rw [hA]
      have HCL := Lib.hid (digits_any x wr hxf.1 hxf.2)
      have hik : (0 : Int) ≤ (k : Int) ∧ (k : Int) < (n : Int) := ⟨by omega, by omega⟩
      clear hA hx hxf hadl hb
      go_wp2_with fail
      refine HCL.out.mono ?_
      rintro e w1 ⟨rfl, hb1⟩
      have hown1 := HO.out.kept (grownOfB hb1 none) (ownNone _)
      have HB1 := Lib.hid (HB.out.trans (hb1.mono HB.out.size))
      have hsz1 := HB1.out.size
      obtain ⟨OA, oc, rfl, _⟩ := own_slice hown1
      clear hb1 hown HCL a0 HO
      go_wp2_with (at_builtin; go_loud (refine wpList_append_own _ rfl (.tmp 11) (.tmp 17) 28 rfl w.heap.size 9 i0 (.string ⟨#[]⟩) 1 16 Tryd.underlying28 hi hz0 hz1 hz2 rfl (by decide) _ k _ rfl (hown1.alloc _) ⟨w1.heap.size, 0, none⟩ 1 1 [sv (Lib.itoa x)] rfl rfl ?c1 ?c2 ?c3 ?c4 ?c5 ?_))
      case c1 => exact World.news_of_block (cs := #[sv (Lib.itoa x)]) (alloc1 w1 _)
      case c2 =>
        intro u hu
        rw [List.mem_singleton.1 hu]
        rfl
      case c3 => unfold maxLen; omega
      case c4 => omega
      case c5 => simp; omega
      intro v' w3 hown3 hgrow _
      have hb4 : Below w.heap.size w w3 := (HB1.out.alloc hsz1 _).grown hgrow (by simp; omega) (fun g hg => (hown1.lt g hg).1)
      have HB4 := Lib.hid hb4
      have HO3 := Lib.hid hown3
      clear hown1 hgrow hown3 hb4
      go_wp2
      try rw [← HAD.out]
      go_roundw
      case rel =>
        refine ⟨k + 1, by omega, by go_num, ?_, HB4.out⟩
        have h := HO3.out
        rw [List.take_add_one, HX.out]
        simpa using h
      case measure => simp [intOf]; omega
    · obtain rfl : k = n := by omega
      obtain ⟨OA, oc, rfl, _⟩ := own_slice hown
      have hS : Strs wr wr.heap.size OA k (l.map Lib.itoa) := by
        refine strsOfOwn (c := oc) (base := w.heap.size) ?_
        have h := hown
        rw [List.take_of_length_le (Nat.le_of_eq HN.out.symm)] at h
        exact h
      have HCL := Lib.hid (refPack_any OA k oc wr.heap.size _ wr hS (Nat.le_refl _) HSZ.out hn9)
      clear hS hown hb HO
      go_wp2_with fail
      refine HCL.out.mono ?_
      rintro e w1 ⟨rfl, hb1⟩
      have HB1 := Lib.hid (HB.out.trans (hb1.mono HB.out.size))
      clear hb1
      go_wp2
      go_ret
      exact ⟨rfl, HB1.out⟩
end Go.Proofs.YtkggmckfdkpldaaDoor
