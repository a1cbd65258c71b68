/-
  The walks of ref10.ReadNumbers, some, parts.
  Conditions: texts of at most 10^9 bytes.
-/
import Derived.Test.YtkggmckfdkpldaaDoorFcJ
import Derived.Test.YtkggmckfdkpldaaDoorFcR
namespace Go.Proofs.YtkggmckfdkpldaaDoor
open Go.RowKit

theorem rdig_b (s : List UInt8) (w : World) (hs : s.length ≤ 1000000000) :
    Calls Tryd.prog 65 #[sv s] w fun e w' => ∃ z, e = .returned (.tuple #[iv z, .bool (numv s).2]) ∧ ((numv s).2 = true → z = (numv s).1) ∧ Below w.heap.size w w' := by
  refine (readDigits_any s w hs).mono ?_
  rintro e w' ⟨b, rfl, hb, hbw⟩
  have hb2 : b = (numv s).2 := by
    have := hb.trans (rd_numv s)
    cases b <;> cases h : (numv s).2 <;> simp_all
  exact ⟨rdv s, by rw [hb2], fun h => rdv_numv h, hbw⟩
set_option maxHeartbeats 1600000 in
set_option maxRecDepth 100000 in
theorem refNumbers_any (s : List UInt8) (w : World) (hs : s.length ≤ 1000000000) :
    Calls Tryd.prog 47 #[sv s] w (ListIntRes s w) := by
  obtain ⟨i0, hi, hz0, hz1, hz2⟩ := info_parts infoI
  have HU := Lib.hid (refUnpack_any s w hs)
  go_enter Tryd.func47, Tryd.ntmps47
  go_wp2_with fail
  refine HU.out.mono ?_
  rintro e w1 ⟨hend, hb⟩
  have HB := Lib.hid hb
  rcases hend with ⟨L, v, rfl, rfl, hown⟩ | ⟨hno, rfl⟩
  · obtain ⟨A, c, rfl, _⟩ := own_slice hown
    have hst : Row w1 (Lt w1.heap.size) A (L.map sv) := Row.ofOwn hown fun _ _ _ h => h
    obtain ⟨n, hn⟩ : ∃ n, n = L.length := ⟨_, rfl⟩
    have hn9 : n ≤ 1000000000 := by have := pack_count L; omega
    rw [← hn]
    have HN := Lib.hid hn
    have HST := Lib.hid hst
    have HSZ := Lib.hid hs
    clear hn hst hown hs hb HU
    go_wp2_with fail
    go_loopw [5, 6, 7] (fun g v i wr => ∃ k : Nat, k ≤ n ∧ i = .int .i64 k ∧ Below w1.heap.size w1 wr ∧ ((g = .bool true ∧ wr.ownsRow w1.heap.size 3 1 v k ((L.map fun x => iv (numv x).1).take k) ∧ ∀ x ∈ L.take k, (numv x).2 = true) ∨ (g = .bool false ∧ ∃ x ∈ L, (numv x).2 = false))) (fun _ _ i _ => n - (intOf i).toNat)
    case atStart => exact ⟨0, Nat.zero_le _, rfl, Below.refl _ _, .inl ⟨rfl, World.ownsRow_nil _ _ _ _, (fun x h => by simp at h)⟩⟩
    case round =>
      obtain ⟨k, hk, rfl, hb, hcase⟩ := hrel
      have HBR := Lib.hid hb
      rcases hcase with ⟨rfl, hown, hall⟩ | ⟨rfl, x, hxm, hxf⟩
      · have HO := Lib.hid hown
        have HAL := Lib.hid hall
        clear hall
        by_cases hlt : k < n
        · obtain ⟨x, hx⟩ : ∃ x, L[k]? = some x := ⟨_, List.getElem?_eq_getElem (by rw [← HN.out]; exact hlt)⟩
          obtain ⟨ad, hA, _, a0⟩ := (HST.out.keep (kept_below hb)).at_ (k := k) (u := sv x) (by simp [hx])
          have hxl : x.length ≤ 1000000000 := Nat.le_trans (pack_elem hx) HSZ.out
          have HX := Lib.hid hx
          have HAD := Lib.hid hA
          rw [hA]
          have HCL := Lib.hid (rdig_b x wr hxl)
          have hik : (0 : Int) ≤ (k : Int) ∧ (k : Int) < (n : Int) := ⟨by omega, by omega⟩
          obtain ⟨g, hg⟩ : ∃ g, g = (numv x).2 := ⟨_, rfl⟩
          rw [← hg] at HCL
          have HG := Lib.hid hg
          clear hA hx hxl hb hown hg
          go_wp2_with fail
          refine HCL.out.mono ?_
          rintro e w2 ⟨z, rfl, hz, hb2⟩
          have HB2 := Lib.hid (HBR.out.trans (hb2.mono HBR.out.size))
          have HZ := Lib.hid hz
          have hown2 := HO.out.kept (grownOfB hb2 none) (ownNone _)
          obtain ⟨OA, oc, rfl, _⟩ := own_slice hown2
          have hsz2 := HB2.out.size
          clear HCL a0 hb2 hz
          go_wp2_with (at_builtin; refine wpList_append_own _ rfl (.tmp 31) (.tmp 33) 22 rfl w1.heap.size 3 i0 (.int .i64 0) 1 8 Tryd.underlying22 hi hz0 hz1 hz2 rfl (by decide) _ k _ rfl (hown2.alloc _) ⟨w2.heap.size, 0, none⟩ 1 1 [iv z] rfl rfl ?c1 ?c2 ?c3 ?c4 ?c5 ?_)
          case c1 => exact World.news_of_block (cs := #[iv z]) (alloc1 w2 _)
          case c2 =>
            intro u hu
            rw [List.mem_singleton.1 hu]
            rfl
          case c3 => unfold maxLen; omega
          case c4 => omega
          case c5 => simp; omega
          intro v' w3 hown3 hgrow _
          have hb4 : Below w1.heap.size w1 w3 := (HB2.out.alloc hsz2 _).grown hgrow (by simp; omega) (fun g hg => (hown2.lt g hg).1)
          have HB4 := Lib.hid hb4
          have HO3 := Lib.hid hown3
          clear hown2 hgrow hown3 hb4
          go_wp2
          try rw [← HAD.out]
          go_roundw
          case rel =>
            refine ⟨k + 1, by omega, by go_num, HB4.out, ?_⟩
            cases g with
            | true =>
              refine .inl ⟨rfl, ?_, fun y hy => ?_⟩
              · have h := HO3.out
                have e2 : (L.map fun x => iv (numv x).1).take (k + 1) = (L.map fun x => iv (numv x).1).take k ++ [iv z] := by
                  rw [List.take_add_one, List.getElem?_map, HX.out, HZ.out rfl]
                  rfl
                rw [e2]
                exact h
              · rw [List.take_add_one, HX.out, List.mem_append] at hy
                rcases hy with hy | hy
                · exact HAL.out y hy
                · obtain rfl : y = x := by simpa using hy
                  exact HG.out.symm
            | false => exact .inr ⟨rfl, x, List.mem_of_getElem? HX.out, HG.out.symm⟩
          case measure => simp [intOf]; omega
        · obtain rfl : k = n := by omega
          obtain ⟨OA, oc, rfl, _⟩ := own_slice hown
          have HRES : Hid (ListIntRes (pack L) w (.returned (.tuple #[.slice OA k oc, .bool true])) wr) := Lib.hid (by
            have h1 := HAL.out
            rw [HN.out] at h1
            have e1 := rdList_take (f := numv) h1
            refine ⟨_, by rw [e1], ?_, HB.out.trans (hb.mono HB.out.size)⟩
            rw [e1]
            have h2 := hown
            rw [List.take_of_length_le (by rw [List.length_map, HN.out]; exact Nat.le_refl _)] at h2
            refine ⟨OA, oc, by rw [List.length_map, HN.out], ?_⟩
            rw [List.map_map]
            exact Row.ofOwn h2 fun g _ h3 h4 => ⟨Nat.le_trans HB.out.size h3, h4⟩)
          clear hown hb
          go_wp2
          go_ret2
          exact HRES.out
      · have HRES : Hid (ListIntRes (pack L) w (.returned (.tuple #[.slice none 0 0, .bool false])) wr) := Lib.hid (by
          have e1 := rdList_no (f := numv) hxm hxf
          refine ⟨.slice none 0 0, by rw [e1], by rw [e1]; exact IntsV.nil _ _, HB.out.trans (hb.mono HB.out.size)⟩)
        clear hxm hxf hb
        by_cases hlt : k < n
        · go_wp2
          go_ret2
          exact HRES.out
        · go_wp2
          go_ret2
          exact HRES.out
  · have HRES : Hid (∀ wr, w1 = wr → ListIntRes s w (.returned (.tuple #[.slice none 0 0, .bool false])) wr) := Lib.hid (by
      rintro wr rfl
      have e1 := rdList_bad (f := numv) hno
      exact ⟨.slice none 0 0, by rw [e1], by rw [e1]; exact IntsV.nil _ _, hb⟩)
    clear hno hb
    go_wp2_with fail
    go_loopw [5, 6, 7] (fun g v i wr => i = .int .i64 (0 : Nat) ∧ g = .bool false ∧ w1 = wr) (fun _ _ i _ => 0 - (intOf i).toNat)
    case atStart => exact ⟨rfl, rfl, rfl⟩
    case round =>
      obtain ⟨rfl, rfl, rfl⟩ := hrel
      go_wp2
      go_ret2
      exact HRES.out _ rfl
/-- What some numbers read as. -/
def SomeRes (ls : List (List UInt8)) (w : World) (e : Ending) (w' : World) : Prop :=
  ∃ lv g, e = .returned (.tuple #[lv, .bool g]) ∧ (g = true ↔ ∀ x ∈ ls, (numv x).2 = true) ∧ (g = true → IntsV w' (Fr w.heap.size w'.heap.size) lv (ls.map fun x => (numv x).1)) ∧ Below w.heap.size w w'
set_option maxHeartbeats 1600000 in
set_option maxRecDepth 100000 in
theorem some_any (ls : List (List UInt8)) (A : Option Addr) (c : Nat) (w : World) (hR : Row w (Lt w.heap.size) A (ls.map sv)) (hs : ∀ x ∈ ls, x.length ≤ 1000000000) (hln : ls.length ≤ 1000000000) :
    Calls Tryd.prog 45 #[.slice A ls.length c] w (SomeRes ls w) := by
  obtain ⟨i0, hi, hz0, hz1, hz2⟩ := info_parts infoI
  obtain ⟨n, hn⟩ : ∃ n, n = ls.length := ⟨_, rfl⟩
  rw [← hn] at hln ⊢
  have HN := Lib.hid hn
  have HST := Lib.hid hR
  have HSZ := Lib.hid hs
  clear hn hR hs
  go_enter Tryd.func45, Tryd.ntmps45
  go_wp2_with fail
  go_loopw [4, 5] (fun v i wr => ∃ k : Nat, k ≤ n ∧ i = .int .i64 k ∧ wr.ownsRow w.heap.size 3 1 v k ((ls.map fun x => iv (numv x).1).take k) ∧ (∀ x ∈ ls.take k, (numv x).2 = true) ∧ Below w.heap.size w wr) (fun _ i _ => n - (intOf i).toNat)
  case atStart => exact ⟨0, Nat.zero_le _, rfl, World.ownsRow_nil _ _ _ _, (fun x h => by simp at h), Below.refl _ _⟩
  case round =>
    obtain ⟨k, hk, rfl, hown, hall, hb⟩ := hrel
    have HBR := Lib.hid hb
    have HO := Lib.hid hown
    have HAL := Lib.hid hall
    clear hall
    by_cases hlt : k < n
    · obtain ⟨x, hx⟩ : ∃ x, ls[k]? = some x := ⟨_, List.getElem?_eq_getElem (by rw [← HN.out]; exact hlt)⟩
      obtain ⟨ad, hA, _, a0⟩ := (HST.out.keep (kept_below hb)).at_ (k := k) (u := sv x) (by simp [hx])
      have hxl : x.length ≤ 1000000000 := HSZ.out x (List.mem_of_getElem? hx)
      have HX := Lib.hid hx
      have HAD := Lib.hid hA
      rw [hA]
      have HCL := Lib.hid (rdig_b x wr hxl)
      have hik : (0 : Int) ≤ (k : Int) ∧ (k : Int) < (n : Int) := ⟨by omega, by omega⟩
      obtain ⟨g, hg⟩ : ∃ g, g = (numv x).2 := ⟨_, rfl⟩
      rw [← hg] at HCL
      have HG := Lib.hid hg
      clear hA hx hxl hb hown hg
      go_wp2_with fail
      refine HCL.out.mono ?_
      rintro e w2 ⟨z, rfl, hz, hb2⟩
      have HB2 := Lib.hid (HBR.out.trans (hb2.mono HBR.out.size))
      have HZ := Lib.hid hz
      cases g with
      | false =>
        have HRES : Hid (SomeRes ls w (.returned (.tuple #[.slice none 0 0, .bool false])) w2) := Lib.hid ⟨_, false, rfl, ⟨(fun e => by cases e), fun e => by
          have := e x (List.mem_of_getElem? HX.out)
          rw [← HG.out] at this
          cases this⟩, (fun e => by cases e), HB2.out⟩
        clear hb2 HCL a0
        go_wp2
        go_ret2
        exact HRES.out
      | true =>
        have hown2 := HO.out.kept (grownOfB hb2 none) (ownNone _)
        obtain ⟨OA, oc, rfl, _⟩ := own_slice hown2
        have hsz2 := HB2.out.size
        clear HCL a0 hb2 hz
        go_wp2_with (at_builtin; refine wpList_append_own _ rfl (.tmp 24) (.tmp 26) 22 rfl w.heap.size 3 i0 (.int .i64 0) 1 8 Tryd.underlying22 hi hz0 hz1 hz2 rfl (by decide) _ k _ rfl (hown2.alloc _) ⟨w2.heap.size, 0, none⟩ 1 1 [iv z] rfl rfl ?c1 ?c2 ?c3 ?c4 ?c5 ?_)
        case c1 => exact World.news_of_block (cs := #[iv z]) (alloc1 w2 _)
        case c2 =>
          intro u hu
          rw [List.mem_singleton.1 hu]
          rfl
        case c3 => unfold maxLen; omega
        case c4 => omega
        case c5 => simp; omega
        intro v' w3 hown3 hgrow _
        have hb4 : Below w.heap.size w w3 := (HB2.out.alloc hsz2 _).grown hgrow (by simp; omega) (fun g hg => (hown2.lt g hg).1)
        have HB4 := Lib.hid hb4
        have HO3 := Lib.hid hown3
        clear hown2 hgrow hown3 hb4
        go_wp2
        try rw [← HAD.out]
        go_roundw
        case rel =>
          refine ⟨k + 1, by omega, by go_num, ?_, fun y hy => ?_, HB4.out⟩
          · have h := HO3.out
            have e2 : (ls.map fun x => iv (numv x).1).take (k + 1) = (ls.map fun x => iv (numv x).1).take k ++ [iv z] := by
              rw [List.take_add_one, List.getElem?_map, HX.out, HZ.out trivial]
              rfl
            rw [e2]
            exact h
          · rw [List.take_add_one, HX.out, List.mem_append] at hy
            rcases hy with hy | hy
            · exact HAL.out y hy
            · obtain rfl : y = x := by simpa using hy
              exact HG.out.symm
        case measure => simp [intOf]; omega
    · obtain rfl : k = n := by omega
      obtain ⟨OA, oc, rfl, _⟩ := own_slice hown
      have HRES : Hid (SomeRes ls w (.returned (.tuple #[.slice OA k oc, .bool true])) wr) := Lib.hid (by
        have h1 := HAL.out
        rw [HN.out, List.take_length] at h1
        refine ⟨_, true, rfl, ⟨fun _ => h1, fun _ => rfl⟩, fun _ => ?_, hb⟩
        have h2 := hown
        rw [List.take_of_length_le (by rw [List.length_map, HN.out]; exact Nat.le_refl _)] at h2
        refine ⟨OA, oc, by rw [List.length_map, HN.out], ?_⟩
        rw [List.map_map]
        exact Row.ofOwn h2 fun g _ h3 h4 => ⟨h3, h4⟩)
      clear hown hb
      go_wp2
      go_ret2
      exact HRES.out
/-- A pack of so many strings. -/
def PartsRes (s : List UInt8) (n : Nat) (w : World) (e : Ending) (w' : World) : Prop :=
  ((∃ L A c, s = pack L ∧ L.length = n ∧ e = .returned (.tuple #[.slice A n c, .bool true]) ∧ Row w' (Fr w.heap.size w'.heap.size) A (L.map sv)) ∨
    ((∀ L, s = pack L → L.length ≠ n) ∧ ∃ lv, e = .returned (.tuple #[lv, .bool false]))) ∧ Below w.heap.size w w'
set_option maxHeartbeats 1600000 in
set_option maxRecDepth 100000 in
theorem parts_any (s : List UInt8) (n : Nat) (w : World) (hs : s.length ≤ 1000000000) (hn : n ≤ 1000) :
    Calls Tryd.prog 44 #[sv s, .int .i64 n] w (PartsRes s n w) := by
  have HU := Lib.hid (refUnpack_any s w hs)
  go_enter Tryd.func44, Tryd.ntmps44
  go_wp2_with fail
  refine HU.out.mono ?_
  rintro e w1 ⟨hend, hb⟩
  rcases hend with ⟨L, v, rfl, rfl, hown⟩ | ⟨hno, rfl⟩
  · obtain ⟨A, c, rfl, _⟩ := own_slice hown
    have hm9 : L.length ≤ 1000000000 := by have := pack_count L; omega
    have hst : Row w1 (Fr w.heap.size w1.heap.size) A (L.map sv) := Row.ofOwn hown fun g _ h3 h4 => ⟨h3, h4⟩
    by_cases hm : L.length = n
    · have HRES : Hid (PartsRes (pack L) n w (.returned (.tuple #[.slice A n c, .bool true])) w1) := Lib.hid ⟨.inl ⟨L, A, c, rfl, hm, rfl, hst⟩, hb⟩
      rw [hm]
      clear hst hown hb HU hm
      go_wp2
      go_ret2
      exact HRES.out
    · have HRES : Hid (PartsRes (pack L) n w (.returned (.tuple #[.slice A L.length c, .bool false])) w1) := Lib.hid ⟨.inr ⟨fun L' e => by rw [← pack_inj _ _ e]; exact hm, _, rfl⟩, hb⟩
      have hq : ¬ ((L.length : Int) = (n : Int)) := fun e => hm (by omega)
      clear hst hown hb HU
      generalize L.length = m at *
      have hq2 : ((m : Int) == (n : Int)) = false := by simpa using hq
      go_wp2
      go_ret2
      exact HRES.out
  · have HRES : Hid (PartsRes s n w (.returned (.tuple #[.slice none 0 0, .bool false])) w1) := Lib.hid ⟨.inr ⟨fun L e => (hno L e).elim, _, rfl⟩, hb⟩
    clear hno hb HU
    go_wp2
    go_ret2
    exact HRES.out
end Go.Proofs.YtkggmckfdkpldaaDoor
