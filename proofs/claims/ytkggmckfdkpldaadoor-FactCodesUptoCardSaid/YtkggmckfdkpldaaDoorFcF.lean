/-
  The walks of what reads numbers out of a pack: fact.next, list, all over ints.
  Conditions: 'Env'; texts of at most 10^9 bytes.
-/
import Derived.Test.YtkggmckfdkpldaaDoorFcE
namespace Go.Proofs.YtkggmckfdkpldaaDoor
open Go.RowKit

theorem num_b (s : List UInt8) (w : World) (hs : s.length ≤ 1000000000) (he : Env w) :
    Calls Tryd.prog 41 #[sv s] w fun e w' => e = .returned (.tuple #[iv (numv s).1, .bool (numv s).2]) ∧ Below w.heap.size w w' := by
  have h := number_any (bs s) w (by rw [bs_size]; exact hs) he
  rw [bs_data] at h
  exact h
/-- Reading a list of numbers: the first one that is none ends it. -/
theorem rdList_take {α : Type} {f : List UInt8 → α × Bool} {L : List (List UInt8)} (h : ∀ x ∈ L.take L.length, (f x).2 = true) : rdList f (pack L) = (L.map fun x => (f x).1, true) := by
  rw [List.take_length] at h
  exact rdList_yes h
def ListIntRes (s : List UInt8) (w : World) (e : Ending) (w' : World) : Prop :=
  ∃ lv, e = .returned (.tuple #[lv, .bool (rdList numv s).2]) ∧ IntsV w' (Fr w.heap.size w'.heap.size) lv (rdList numv s).1 ∧ Below w.heap.size w w'
set_option maxHeartbeats 1600000 in
set_option maxRecDepth 100000 in
theorem listInt_any (s : List UInt8) (w : World) (he : Env w) (hs : s.length ≤ 1000000000) :
    Calls Tryd.prog 74 #[sv s, fnV 41] w (ListIntRes s w) := by
  obtain ⟨i0, hi, hz0, hz1, hz2⟩ := info_parts infoI
  have HU := Lib.hid (unpack_any s w he hs)
  have HE := Lib.hid he
  clear he
  go_enter Tryd.func74, Tryd.ntmps74
  go_wp2_with fail
  refine HU.out.mono ?_
  rintro e w1 ⟨hend, hb⟩
  have HB := Lib.hid hb
  rcases hend with ⟨L, v, rfl, rfl, hown⟩ | ⟨hno, rfl⟩
  · obtain ⟨A, c, rfl, _⟩ := own_slice hown
    have hst : Row w1 (Lt w1.heap.size) A (L.map sv) := Row.ofOwn hown fun _ _ _ h => h
    obtain ⟨n, hn⟩ : ∃ n, n = L.length := ⟨_, rfl⟩
    have hn9 : n ≤ 1000000000 := by have := pack_count L; omega
    rw [← hn]
    have HN := Lib.hid hn
    have HST := Lib.hid hst
    have HSZ := Lib.hid hs
    clear hn hst hown hs hb
    go_wp2_with fail
    go_loopw [22, 8] (fun i v wr => ∃ k : Nat, k ≤ n ∧ i = .int .i64 k ∧ wr.ownsRow w1.heap.size 3 1 v k ((L.map fun x => iv (numv x).1).take k) ∧ (∀ x ∈ L.take k, (numv x).2 = true) ∧ Below w1.heap.size w1 wr) (fun i _ _ => n - (intOf i).toNat)
    case atStart => exact ⟨0, Nat.zero_le _, rfl, World.ownsRow_nil _ _ _ _, (fun x h => by simp at h), Below.refl _ _⟩
    case round =>
      obtain ⟨k, hk, rfl, hown, hall, hb⟩ := hrel
      have HBR := Lib.hid hb
      have HO := Lib.hid hown
      have HAL := Lib.hid hall
      clear hall
      by_cases hlt : k < n
      · obtain ⟨x, hx⟩ : ∃ x, L[k]? = some x := ⟨_, List.getElem?_eq_getElem (by rw [← HN.out]; exact hlt)⟩
        obtain ⟨ad, hA, _, a0⟩ := (HST.out.keep (kept_below hb)).at_ (k := k) (u := sv x) (by simp [hx])
        have hxl : x.length ≤ 1000000000 := Nat.le_trans (pack_elem hx) HSZ.out
        have HX := Lib.hid hx
        have HAD := Lib.hid hA
        rw [hA]
        have HCL := Lib.hid (num_b x wr hxl (HE.out.below (HB.out.trans (hb.mono HB.out.size))))
        have hik : (0 : Int) ≤ (k : Int) ∧ (k : Int) < (n : Int) := ⟨by omega, by omega⟩
        obtain ⟨g, hg⟩ : ∃ g, g = (numv x).2 := ⟨_, rfl⟩
        obtain ⟨z, hz⟩ : ∃ z, z = (numv x).1 := ⟨_, rfl⟩
        rw [← hg, ← hz] at HCL
        have HG := Lib.hid hg
        have HZ := Lib.hid hz
        clear hA hx hxl hb hown hg hz
        go_wp2_with fail
        refine HCL.out.mono ?_
        rintro e w2 ⟨rfl, hb2⟩
        have HB2 := Lib.hid (HBR.out.trans (hb2.mono HBR.out.size))
        cases g with
        | false =>
          have HRES : Hid (ListIntRes (pack L) w (.returned (.tuple #[.slice none 0 0, .bool false])) w2) := Lib.hid (by
            have e1 := rdList_no (f := numv) (List.mem_of_getElem? HX.out) HG.out.symm
            refine ⟨.slice none 0 0, by rw [e1], by rw [e1]; exact IntsV.nil _ _, HB.out.trans (HB2.out.mono HB.out.size)⟩)
          clear hb2 HCL a0
          go_wp2
          go_ret2
          exact HRES.out
        | true =>
          have hown2 := HO.out.kept (grownOfB hb2 none) (ownNone _)
          obtain ⟨OA, oc, rfl, _⟩ := own_slice hown2
          have hsz2 := HB2.out.size
          clear HCL a0 hb2
          go_wp2_with (at_builtin; refine wpList_append_own _ rfl (.tmp 34) (.tmp 36) 22 rfl w1.heap.size 3 i0 (.int .i64 0) 1 8 Tryd.underlying22 hi hz0 hz1 hz2 rfl (by decide) _ k _ rfl (hown2.alloc _) ⟨w2.heap.size, 0, none⟩ 1 1 [iv z] rfl rfl ?c1 ?c2 ?c3 ?c4 ?c5 ?_)
          case c1 => exact World.news_of_block (cs := #[iv z]) (alloc1 w2 _)
          case c2 =>
            intro u hu
            rw [List.mem_singleton.1 hu]
            rfl
          case c3 => unfold maxLen; omega
          case c4 => omega
          case c5 => simp; omega
          intro v' w3 hown3 hgrow _
          have hb4 : Below w1.heap.size w1 w3 := (HB2.out.alloc hsz2 _).grown hgrow (by simp; omega) (fun g hg => (hown2.lt g hg).1)
          have HB4 := Lib.hid hb4
          have HO3 := Lib.hid hown3
          clear hown2 hgrow hown3 hb4
          go_wp2
          try rw [← HAD.out]
          go_roundw
          case rel =>
            refine ⟨k + 1, by omega, by go_num, ?_, fun y hy => ?_, HB4.out⟩
            · have h := HO3.out
              have e2 : (L.map fun x => iv (numv x).1).take (k + 1) = (L.map fun x => iv (numv x).1).take k ++ [iv z] := by
                rw [List.take_add_one, List.getElem?_map, HX.out, HZ.out]
                rfl
              rw [e2]
              exact h
            · rw [List.take_add_one, HX.out, List.mem_append] at hy
              rcases hy with hy | hy
              · exact HAL.out y hy
              · obtain rfl : y = x := by simpa using hy
                exact HG.out.symm
          case measure => simp [intOf]; omega
      · obtain rfl : k = n := by omega
        obtain ⟨OA, oc, rfl, _⟩ := own_slice hown
        have HRES : Hid (ListIntRes (pack L) w (.returned (.tuple #[.slice OA k oc, .bool true])) wr) := Lib.hid (by
          have h1 := HAL.out
          rw [HN.out] at h1
          have e1 := rdList_take (f := numv) h1
          refine ⟨_, by rw [e1], ?_, HB.out.trans (hb.mono HB.out.size)⟩
          rw [e1]
          have h2 := hown
          rw [List.take_of_length_le (by rw [List.length_map, HN.out]; exact Nat.le_refl _)] at h2
          refine ⟨OA, oc, by rw [List.length_map, HN.out], ?_⟩
          rw [List.map_map]
          exact Row.ofOwn h2 fun g _ h3 h4 => ⟨Nat.le_trans HB.out.size h3, h4⟩)
        clear hown hb
        go_wp2
        go_ret2
        exact HRES.out
  · have HRES : Hid (ListIntRes s w (.returned (.tuple #[.slice none 0 0, .bool false])) w1) := Lib.hid (by
      have e1 := rdList_bad (f := numv) hno
      refine ⟨.slice none 0 0, by rw [e1], by rw [e1]; exact IntsV.nil _ _, hb⟩)
    clear hno hb
    go_wp2
    go_ret2
    exact HRES.out
end Go.Proofs.YtkggmckfdkpldaaDoor
