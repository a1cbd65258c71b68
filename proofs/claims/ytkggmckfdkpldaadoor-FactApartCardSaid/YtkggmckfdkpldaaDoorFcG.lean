/-
  The walks of what reads a pack's fields: fact.open, text.
  Conditions: 'Env'; texts of at most 10^9 bytes.
  The walks of what reads numbers out of a pack: fact.next, list, all over ints.
  Conditions: 'Env'; texts of at most 10^9 bytes.
  The walks of fact.next and all over ints, done over operations, readOp.
  Conditions: 'Env'; texts of at most 10^9 bytes.
-/
import Derived.Test.YtkggmckfdkpldaaDoorFcA
import Derived.Test.YtkggmckfdkpldaaDoorFcU
namespace Go.Proofs.YtkggmckfdkpldaaDoor
section
open Go.RowKit
/-- The fields that are still to be read, in block fb. -/
structure FAt (B fb : Nat) (w : World) (L : List (List UInt8)) (ok : Bool) : Prop where
  low : B ≤ fb
  at_ : ∃ A c, L.length ≤ c ∧ c ≤ maxLen ∧ w.heap[fb]? = some (.cells #[.slice A L.length c, .bool ok] 104 (0, 0)) ∧ Row w (fun b => b < w.heap.size ∧ b ≠ fb) A (L.map sv)
theorem FAt.kp {B fb : Nat} {w w' : World} {L : List (List UInt8)} {ok : Bool} (h : FAt B fb w L ok) (hb : Below w.heap.size w w') : FAt B fb w' L ok := by
  obtain ⟨hl, A, c, h1, h2, h3, h4⟩ := h
  refine ⟨hl, A, c, h1, h2, (hb.block _ (lt_of_heap h3)).trans h3, (h4.keep fun p hp => hb.cell hp.1).more fun _ hy => ⟨Nat.lt_of_lt_of_le hy.1 hb.size, hy.2⟩⟩
/-- The fields that open gives. -/
noncomputable def opn (s : List UInt8) (n : Nat) : List (List UInt8) × Bool := if (unpk s).2 = true ∧ (unpk s).1.length = n then ((unpk s).1, true) else (List.replicate n [], false)
theorem opn_len (s : List UInt8) (n : Nat) : (opn s n).1.length = n := by
  unfold opn
  by_cases h : (unpk s).2 = true ∧ (unpk s).1.length = n
  · rw [if_pos h]; exact h.2
  · rw [if_neg h]; simp
theorem opn_le {s : List UInt8} {n : Nat} {x : List UInt8} (h : x ∈ (opn s n).1) : x.length ≤ s.length := by
  unfold opn at h
  by_cases hc : (unpk s).2 = true ∧ (unpk s).1.length = n
  · rw [if_pos hc] at h
    rcases unpk_cases s with ⟨L, rfl, e⟩ | ⟨_, e⟩
    · rw [e] at h
      obtain ⟨k, hk⟩ := List.getElem?_of_mem h
      exact pack_elem hk
    · rw [e] at hc
      cases hc.1
  · rw [if_neg hc] at h
    rw [List.eq_of_mem_replicate h]
    exact Nat.zero_le _
theorem str1 (s : List UInt8) : ([sv s] : List Value).length = 1 := rfl
theorem flt1 (ss : List (List UInt8)) : flt (fun s => [sv s]) ss = ss.map sv := by
  induction ss with
  | nil => rfl
  | cons a r ih => rw [flt_cons, ih]; rfl
theorem setKp (fb o : Nat) (w : World) (v : Value) : Kp (fun y => y = fb) w (w.setCell ⟨fb, o, none⟩ v) := Kp.setCell (M := fun y => y = fb) (Kp.refl _ _) (fun _ => rfl) v
theorem fat_put {B fb : Nat} {w : World} {v0 : Value} {ok : Bool} {A : Option Addr} {L : List (List UInt8)} {c : Nat} (hl : B ≤ fb) (hh : w.heap[fb]? = some (.cells #[v0, .bool ok] 104 (0, 0))) (hr : Row w (fun b => b < w.heap.size ∧ b ≠ fb) A (L.map sv)) (hc : L.length ≤ c) (hcm : c ≤ maxLen) :
    FAt B fb (w.setCell ⟨fb, 0, none⟩ (.slice A L.length c)) L ok := by
  have hk := setKp fb 0 w (.slice A L.length c)
  refine ⟨hl, A, c, hc, hcm, ?_, (hr.keep (hk.kept fun b hb => hb)).more fun b hb => ⟨Nat.lt_of_lt_of_le hb.1 hk.size, hb.2⟩⟩
  rw [setCell_heap hh]
  rfl
theorem fat_ok {B fb : Nat} {w : World} {ok : Bool} {L : List (List UInt8)} (h : FAt B fb w L ok) (b : Bool) : FAt B fb (w.setCell ⟨fb, 1, none⟩ (.bool b)) L b := by
  obtain ⟨hl, A, c, hc, hcm, hh, hr⟩ := h
  have hk := setKp fb 1 w (.bool b)
  refine ⟨hl, A, c, hc, hcm, ?_, (hr.keep (hk.kept fun b hb => hb)).more fun b hb => ⟨Nat.lt_of_lt_of_le hb.1 hk.size, hb.2⟩⟩
  rw [setCell_heap hh]
  rfl
theorem FAt.okCell {B fb : Nat} {w : World} {ok : Bool} {L : List (List UInt8)} (h : FAt B fb w L ok) : w.cell? ⟨fb, 1, none⟩ = some (.bool ok) ∧ w.frozen? ⟨fb, 1, none⟩ = false := by
  obtain ⟨hl, A, c, hc, hcm, hh, hr⟩ := h
  exact ⟨(Lib.cell_of_heap hh _).trans rfl, Lib.frozen_of_heap hh 1⟩
/-- How a field is read: the rest is left, ok as it was. -/
def TextRes (B fb : Nat) (w : World) (x : List UInt8) (L : List (List UInt8)) (ok : Bool) (e : Ending) (w' : World) : Prop :=
  e = .returned (sv x) ∧ FAt B fb w' L ok ∧ Kp (fun y => y = fb) w w'
set_option maxHeartbeats 1600000 in
set_option maxRecDepth 100000 in
theorem text_any (B fb : Nat) (x : List UInt8) (L : List (List UInt8)) (ok : Bool) (w : World) (h : FAt B fb w (x :: L) ok) :
    Calls Tryd.prog 58 #[.pointer (some ⟨fb, 0, none⟩)] w (TextRes B fb w x L ok) := by
  obtain ⟨hl, A, c, hc, hcm, hh, hr⟩ := h
  obtain ⟨ad, hA, hS, a0⟩ := hr.at_ (k := 0) (u := sv x) rfl
  have hbk : Row w (fun b => b < w.heap.size ∧ b ≠ fb) (backOf A 1 c 1) (L.map sv) := by
    have := back_row (f := fun s => [sv s]) (s := 1) str1 (ys := x :: L) (OA := A) (w := w) (S := fun b => b < w.heap.size ∧ b ≠ fb) (by rw [flt1]; exact hr) rfl hc 1
    rw [flt1] at this
    exact this
  subst hA
  have hlt := lt_of_heap hh
  obtain ⟨n, hn⟩ : ∃ n, n = L.length := ⟨_, rfl⟩
  rw [List.length_cons, ← hn] at hc hh
  have HN := Lib.hid hn
  have HBK := Lib.hid hbk
  have HH := Lib.hid hh
  have c0 : w.cell? ⟨fb, 0, none⟩ = some (.slice (some ad) (n + 1) c) := (Lib.cell_of_heap hh _).trans rfl
  have f0 : w.frozen? ⟨fb, 0, none⟩ = false := Lib.frozen_of_heap hh 0
  rw [show ad.add 0 = ad by simp [Addr.add]] at a0
  clear hn hbk hr hh hS
  by_cases hc1 : c = 1
  · subst hc1
    obtain rfl : n = 0 := by omega
    have HRES : Hid (TextRes B fb w x L ok (.returned (sv x)) (w.setCell ⟨fb, 0, none⟩ (.slice (some ad) 0 0))) := Lib.hid ⟨rfl, by
      have hbk := HBK.out
      have := fat_put (L := L) (c := 0) hl HH.out hbk (by rw [← HN.out]; exact Nat.le_refl _) (Nat.zero_le _)
      rw [← HN.out] at this
      exact this, setKp _ _ _ _⟩
    go_enter Tryd.func58, Tryd.ntmps58
    go_wp2
    go_ret
    exact HRES.out
  · have HRES : Hid (TextRes B fb w x L ok (.returned (sv x)) (w.setCell ⟨fb, 0, none⟩ (.slice (some ⟨ad.block, ad.off + 1, none⟩) n (c - 1)))) := Lib.hid ⟨rfl, by
      have hbk := HBK.out
      unfold backOf at hbk
      rw [if_neg hc1] at hbk
      have := fat_put (L := L) (c := c - 1) hl HH.out hbk (by rw [← HN.out]; omega) (by omega)
      rw [← HN.out] at this
      exact this, setKp _ _ _ _⟩
    go_enter Tryd.func58, Tryd.ntmps58
    go_wp2
    go_ret
    exact HRES.out
/-- How open ends: the fields in a block of their own. -/
def OpenRes (s : List UInt8) (n : Nat) (w : World) (e : Ending) (w' : World) : Prop :=
  ∃ fb, e = .returned (.pointer (some ⟨fb, 0, none⟩)) ∧ fb < w'.heap.size ∧ FAt w.heap.size fb w' (opn s n).1 (opn s n).2 ∧ Below w.heap.size w w'
set_option maxHeartbeats 1600000 in
set_option maxRecDepth 100000 in
theorem open_any (s : List UInt8) (n : Nat) (w : World) (he : Env w) (hs : s.length ≤ 1000000000) (hn : n ≤ 10) :
    Calls Tryd.prog 38 #[sv s, .int .i64 n] w (OpenRes s n w) := by
  obtain ⟨i0, hi, hz0, hz1, hz2⟩ := info_parts infoS
  have HU := Lib.hid (unpack_any s w he hs)
  clear he
  go_enter Tryd.func38, Tryd.ntmps38
  go_wp2_with fail
  refine HU.out.mono ?_
  rintro e w1 ⟨hend, hb⟩
  have HB := Lib.hid hb
  rcases hend with ⟨L, v, rfl, rfl, hown⟩ | ⟨hno, rfl⟩
  · obtain ⟨A, c, rfl, _⟩ := own_slice hown
    have HO := Lib.hid hown
    obtain ⟨m, hm⟩ : ∃ m, m = L.length := ⟨_, rfl⟩
    rw [← hm] at hown ⊢
    have HM := Lib.hid hm
    by_cases hq : m = n
    · subst hq
      have hle := own_le hown
      have hop : opn (pack L) m = (L, true) := by
        unfold opn
        rw [unpk_pack, if_pos ⟨rfl, hm.symm⟩]
      have hrow : Row w1 (Lt w1.heap.size) A (L.map sv) := by rw [hm] at hown; exact Row.ofOwn hown fun _ _ _ h => h
      have HRES : Hid (OpenRes (pack L) m w (.returned (.pointer (some ⟨w1.heap.size, 0, none⟩))) (w1.alloc (.cells #[.slice A m c, .bool true] 104))) := Lib.hid ⟨w1.heap.size, rfl, by simp, by
        rw [hop]
        refine ⟨hb.size, A, c, by rw [← hm]; exact hle.1, hle.2, by rw [← hm]; exact alloc1 _ _, (hrow.keep (kept_below ((Below.refl _ w1).alloc (Nat.le_refl _) _))).more fun b hb => ⟨by simp; exact Nat.lt_succ_of_lt hb, Nat.ne_of_lt hb⟩⟩, hb.alloc hb.size _⟩
      clear hown hm hle hop hrow hb
      go_wp2
      go_ret
      exact HRES.out
    · have hop : opn (pack L) n = (List.replicate n [], false) := by
        unfold opn
        rw [unpk_pack, if_neg fun e => hq (hm.trans e.2)]
      have hmn : (m : Int) ≠ (n : Int) := fun e => hq (by omega)
      obtain ⟨wc, hmk, hown2, hgr⟩ := run_make_full (P := Tryd.prog) w1 w1.heap.size 28 9 i0 _ 1 Tryd.underlying28 hi hz0 hz1 .i64 .i64 n (by rw [hz2]; omega) (by unfold maxLen; omega) (by omega)
      have hbc : Below w1.heap.size w1 wc := ⟨hgr.os, hgr.tape, hgr.output, hgr.size, fun y hy => hgr.block y hy (by simp)⟩
      rw [madeS] at hown2
      have hrow : Row wc (Lt wc.heap.size) (some ⟨w1.heap.size, 0, none⟩) ((List.replicate n ([] : List UInt8)).map sv) := by
        rw [List.map_replicate]
        exact Row.ofOwn hown2 fun _ _ _ h => h
      have hle := own_le hown2
      have HRES : Hid (OpenRes (pack L) n w (.returned (.pointer (some ⟨wc.heap.size, 0, none⟩))) (wc.alloc (.cells #[.slice (some ⟨w1.heap.size, 0, none⟩) n n, .bool false] 104))) := Lib.hid ⟨wc.heap.size, rfl, by simp, by
        rw [hop]
        refine ⟨Nat.le_trans HB.out.size hbc.size, some ⟨w1.heap.size, 0, none⟩, n, by simp, hle.2, by simp only [List.length_replicate]; exact alloc1 _ _, (hrow.keep (kept_below ((Below.refl _ wc).alloc (Nat.le_refl _) _))).more fun b hb => ⟨by simp; exact Nat.lt_succ_of_lt hb, Nat.ne_of_lt hb⟩⟩, ((HB.out.trans (hbc.mono HB.out.size)).alloc (Nat.le_trans HB.out.size hbc.size) _)⟩
      clear hown2 hgr hbc hrow hle hop
      go_wp2
      go_ret
      exact HRES.out
  · have hop : opn s n = (List.replicate n [], false) := by
      unfold opn
      rw [unpk_no hno, if_neg (by simp)]
    obtain ⟨wc, hmk, hown2, hgr⟩ := run_make_full (P := Tryd.prog) w1 w1.heap.size 28 9 i0 _ 1 Tryd.underlying28 hi hz0 hz1 .i64 .i64 n (by rw [hz2]; omega) (by unfold maxLen; omega) (by omega)
    have hbc : Below w1.heap.size w1 wc := ⟨hgr.os, hgr.tape, hgr.output, hgr.size, fun y hy => hgr.block y hy (by simp)⟩
    rw [madeS] at hown2
    have hrow : Row wc (Lt wc.heap.size) (some ⟨w1.heap.size, 0, none⟩) ((List.replicate n ([] : List UInt8)).map sv) := by
      rw [List.map_replicate]
      exact Row.ofOwn hown2 fun _ _ _ h => h
    have hle := own_le hown2
    have HRES : Hid (OpenRes s n w (.returned (.pointer (some ⟨wc.heap.size, 0, none⟩))) (wc.alloc (.cells #[.slice (some ⟨w1.heap.size, 0, none⟩) n n, .bool false] 104))) := Lib.hid ⟨wc.heap.size, rfl, by simp, by
      rw [hop]
      refine ⟨Nat.le_trans HB.out.size hbc.size, some ⟨w1.heap.size, 0, none⟩, n, by simp, hle.2, by simp only [List.length_replicate]; exact alloc1 _ _, (hrow.keep (kept_below ((Below.refl _ wc).alloc (Nat.le_refl _) _))).more fun b hb => ⟨by simp; exact Nat.lt_succ_of_lt hb, Nat.ne_of_lt hb⟩⟩, ((HB.out.trans (hbc.mono HB.out.size)).alloc (Nat.le_trans HB.out.size hbc.size) _)⟩
    clear hown2 hgr hbc hrow hle hop
    go_wp2
    go_ret
    exact HRES.out
end

section
open Go.RowKit
theorem num_b (s : List UInt8) (w : World) (hs : s.length ≤ 1000000000) (he : Env w) :
    Calls Tryd.prog 41 #[sv s] w fun e w' => e = .returned (.tuple #[iv (numv s).1, .bool (numv s).2]) ∧ Below w.heap.size w w' := by
  have h := number_any (bs s) w (by rw [bs_size]; exact hs) he
  rw [bs_data] at h
  exact h
/-- Reading a list of numbers: the first one that is none ends it. -/
theorem rdList_take {α : Type} {f : List UInt8 → α × Bool} {L : List (List UInt8)} (h : ∀ x ∈ L.take L.length, (f x).2 = true) : rdList f (pack L) = (L.map fun x => (f x).1, true) := by
  rw [List.take_length] at h
  exact rdList_yes h
def ListIntRes (s : List UInt8) (w : World) (e : Ending) (w' : World) : Prop :=
  ∃ lv, e = .returned (.tuple #[lv, .bool (rdList numv s).2]) ∧ IntsV w' (Fr w.heap.size w'.heap.size) lv (rdList numv s).1 ∧ Below w.heap.size w w'
set_option maxHeartbeats 1600000 in
set_option maxRecDepth 100000 in
theorem listInt_any (s : List UInt8) (w : World) (he : Env w) (hs : s.length ≤ 1000000000) :
    Calls Tryd.prog 74 #[sv s, fnV 41] w (ListIntRes s w) := by
  obtain ⟨i0, hi, hz0, hz1, hz2⟩ := info_parts infoI
  have HU := Lib.hid (unpack_any s w he hs)
  have HE := Lib.hid he
  clear he
  go_enter Tryd.func74, Tryd.ntmps74
  go_wp2_with fail
  refine HU.out.mono ?_
  rintro e w1 ⟨hend, hb⟩
  have HB := Lib.hid hb
  rcases hend with ⟨L, v, rfl, rfl, hown⟩ | ⟨hno, rfl⟩
  · obtain ⟨A, c, rfl, _⟩ := own_slice hown
    have hst : Row w1 (Lt w1.heap.size) A (L.map sv) := Row.ofOwn hown fun _ _ _ h => h
    obtain ⟨n, hn⟩ : ∃ n, n = L.length := ⟨_, rfl⟩
    have hn9 : n ≤ 1000000000 := by have := pack_count L; omega
    rw [← hn]
    have HN := Lib.hid hn
    have HST := Lib.hid hst
    have HSZ := Lib.hid hs
    clear hn hst hown hs hb
    go_wp2_with fail
    go_loopw [22, 8] (fun i v wr => ∃ k : Nat, k ≤ n ∧ i = .int .i64 k ∧ wr.ownsRow w1.heap.size 3 1 v k ((L.map fun x => iv (numv x).1).take k) ∧ (∀ x ∈ L.take k, (numv x).2 = true) ∧ Below w1.heap.size w1 wr) (fun i _ _ => n - (intOf i).toNat)
    case atStart => exact ⟨0, Nat.zero_le _, rfl, World.ownsRow_nil _ _ _ _, (fun x h => by simp at h), Below.refl _ _⟩
    case round =>
      obtain ⟨k, hk, rfl, hown, hall, hb⟩ := hrel
      have HBR := Lib.hid hb
      have HO := Lib.hid hown
      have HAL := Lib.hid hall
      clear hall
      by_cases hlt : k < n
      · obtain ⟨x, hx⟩ : ∃ x, L[k]? = some x := ⟨_, List.getElem?_eq_getElem (by rw [← HN.out]; exact hlt)⟩
        obtain ⟨ad, hA, _, a0⟩ := (HST.out.keep (kept_below hb)).at_ (k := k) (u := sv x) (by simp [hx])
        have hxl : x.length ≤ 1000000000 := Nat.le_trans (pack_elem hx) HSZ.out
        have HX := Lib.hid hx
        have HAD := Lib.hid hA
        rw [hA]
        have HCL := Lib.hid (num_b x wr hxl (HE.out.below (HB.out.trans (hb.mono HB.out.size))))
        have hik : (0 : Int) ≤ (k : Int) ∧ (k : Int) < (n : Int) := ⟨by omega, by omega⟩
        obtain ⟨g, hg⟩ : ∃ g, g = (numv x).2 := ⟨_, rfl⟩
        obtain ⟨z, hz⟩ : ∃ z, z = (numv x).1 := ⟨_, rfl⟩
        rw [← hg, ← hz] at HCL
        have HG := Lib.hid hg
        have HZ := Lib.hid hz
        clear hA hx hxl hb hown hg hz
        go_wp2_with fail
        refine HCL.out.mono ?_
        rintro e w2 ⟨rfl, hb2⟩
        have HB2 := Lib.hid (HBR.out.trans (hb2.mono HBR.out.size))
        cases g with
        | false =>
          have HRES : Hid (ListIntRes (pack L) w (.returned (.tuple #[.slice none 0 0, .bool false])) w2) := Lib.hid (by
            have e1 := rdList_no (f := numv) (List.mem_of_getElem? HX.out) HG.out.symm
            refine ⟨.slice none 0 0, by rw [e1], by rw [e1]; exact IntsV.nil _ _, HB.out.trans (HB2.out.mono HB.out.size)⟩)
          clear hb2 HCL a0
          go_wp2
          go_ret2
          exact HRES.out
        | true =>
          have hown2 := HO.out.kept (grownOfB hb2 none) (ownNone _)
          obtain ⟨OA, oc, rfl, _⟩ := own_slice hown2
          have hsz2 := HB2.out.size
          clear HCL a0 hb2
          go_wp2_with (at_builtin; refine wpList_append_own _ rfl (.tmp 34) (.tmp 36) 22 rfl w1.heap.size 3 i0 (.int .i64 0) 1 8 Tryd.underlying22 hi hz0 hz1 hz2 rfl (by decide) _ k _ rfl (hown2.alloc _) ⟨w2.heap.size, 0, none⟩ 1 1 [iv z] rfl rfl ?c1 ?c2 ?c3 ?c4 ?c5 ?_)
          case c1 => exact World.news_of_block (cs := #[iv z]) (alloc1 w2 _)
          case c2 =>
            intro u hu
            rw [List.mem_singleton.1 hu]
            rfl
          case c3 => unfold maxLen; omega
          case c4 => omega
          case c5 => simp; omega
          intro v' w3 hown3 hgrow _
          have hb4 : Below w1.heap.size w1 w3 := (HB2.out.alloc hsz2 _).grown hgrow (by simp; omega) (fun g hg => (hown2.lt g hg).1)
          have HB4 := Lib.hid hb4
          have HO3 := Lib.hid hown3
          clear hown2 hgrow hown3 hb4
          go_wp2
          try rw [← HAD.out]
          go_roundw
          case rel =>
            refine ⟨k + 1, by omega, by go_num, ?_, fun y hy => ?_, HB4.out⟩
            · have h := HO3.out
              have e2 : (L.map fun x => iv (numv x).1).take (k + 1) = (L.map fun x => iv (numv x).1).take k ++ [iv z] := by
                rw [List.take_add_one, List.getElem?_map, HX.out, HZ.out]
                rfl
              rw [e2]
              exact h
            · rw [List.take_add_one, HX.out, List.mem_append] at hy
              rcases hy with hy | hy
              · exact HAL.out y hy
              · obtain rfl : y = x := by simpa using hy
                exact HG.out.symm
          case measure => simp [intOf]; omega
      · obtain rfl : k = n := by omega
        obtain ⟨OA, oc, rfl, _⟩ := own_slice hown
        have HRES : Hid (ListIntRes (pack L) w (.returned (.tuple #[.slice OA k oc, .bool true])) wr) := Lib.hid (by
          have h1 := HAL.out
          rw [HN.out] at h1
          have e1 := rdList_take (f := numv) h1
          refine ⟨_, by rw [e1], ?_, HB.out.trans (hb.mono HB.out.size)⟩
          rw [e1]
          have h2 := hown
          rw [List.take_of_length_le (by rw [List.length_map, HN.out]; exact Nat.le_refl _)] at h2
          refine ⟨OA, oc, by rw [List.length_map, HN.out], ?_⟩
          rw [List.map_map]
          exact Row.ofOwn h2 fun g _ h3 h4 => ⟨Nat.le_trans HB.out.size h3, h4⟩)
        clear hown hb
        go_wp2
        go_ret2
        exact HRES.out
  · have HRES : Hid (ListIntRes s w (.returned (.tuple #[.slice none 0 0, .bool false])) w1) := Lib.hid (by
      have e1 := rdList_bad (f := numv) hno
      refine ⟨.slice none 0 0, by rw [e1], by rw [e1]; exact IntsV.nil _ _, hb⟩)
    clear hno hb
    go_wp2
    go_ret2
    exact HRES.out
end

section
open Go.RowKit
theorem kpBelow {w u v : World} {M : Nat → Prop} (h : Below w.heap.size w u) (hk : Kp M u v) (hM : ∀ y, M y → w.heap.size ≤ y) : Below w.heap.size w v :=
  ⟨hk.os.trans h.os, hk.tape.trans h.tape, hk.output.trans h.output, Nat.le_trans h.size hk.size, fun y hy => (hk.block y (Nat.lt_of_lt_of_le hy h.size) (fun e => by have := hM y e; omega)).trans (h.block y hy)⟩
theorem FAt.far {B fb : Nat} {w w' : World} {L : List (List UInt8)} {ok : Bool} (h : FAt B fb w L ok) (hb : Below w.heap.size w w') : FAt B fb w' L ok := h.kp hb
theorem FAt.lt {B fb : Nat} {w : World} {L : List (List UInt8)} {ok : Bool} (h : FAt B fb w L ok) : fb < w.heap.size := by
  obtain ⟨_, A, c, _, _, hh, _⟩ := h
  exact lt_of_heap hh
/-- Blocks that came since w0, but not the fields. -/
abbrev Nw (w0 : World) (fb : Nat) (w : World) (b : Nat) : Prop := w0.heap.size ≤ b ∧ b < w.heap.size ∧ b ≠ fb
theorem IntsV.nw {w0 w w' : World} {fb : Nat} {v : Value} {l : List Int} (h : IntsV w (Nw w0 fb w) v l) (hk : Kp (fun y => y = fb) w w') : IntsV w' (Nw w0 fb w') v l :=
  (h.keep (hk.kept fun b hb => ⟨hb.2.1, hb.2.2⟩)).more fun b hb => ⟨hb.1, Nat.lt_of_lt_of_le hb.2.1 hk.size, hb.2.2⟩
/-- How a field is read and turned. -/
def NextRes (w0 : World) (fb : Nat) (L : List (List UInt8)) (ok : Bool) (R : World → Value → Prop) (w : World) (e : Ending) (w' : World) : Prop :=
  ∃ v, e = .returned v ∧ R w' v ∧ FAt w0.heap.size fb w' L ok ∧ Kp (fun y => y = fb) w w' ∧ Below w0.heap.size w0 w'
set_option maxHeartbeats 1600000 in
set_option maxRecDepth 100000 in
theorem nextInt_any (w0 : World) (fb : Nat) (x : List UInt8) (L : List (List UInt8)) (ok : Bool) (w : World) (he : Env w0) (hb : Below w0.heap.size w0 w) (h : FAt w0.heap.size fb w (x :: L) ok) (hx : x.length ≤ 1000000000) :
    Calls Tryd.prog 40 #[.pointer (some ⟨fb, 0, none⟩), fnV 41] w (NextRes w0 fb L (ok && (numv x).2) (fun _ v => v = iv (numv x).1) w) := by
  have HT := Lib.hid (text_any w0.heap.size fb x L ok w h)
  have HL := Lib.hid h.low
  obtain ⟨g, hg⟩ : ∃ g, g = (numv x).2 := ⟨_, rfl⟩
  obtain ⟨z, hz⟩ : ∃ z, z = (numv x).1 := ⟨_, rfl⟩
  have HC := Lib.hid fun (u : World) (hu : Env u) => num_b x u hx hu
  rw [← hg, ← hz] at HC
  rw [← hg, ← hz]
  clear hg hz hx h
  have HE := Lib.hid he
  have HB := Lib.hid hb
  clear he hb
  go_enter Tryd.func40, Tryd.ntmps40
  go_wp2_with fail
  refine HT.out.mono ?_
  rintro e w1 ⟨rfl, hF1, hk1⟩
  have HB1 := Lib.hid (kpBelow HB.out hk1 fun y e => by rw [e]; exact HL.out)
  have HF1 := Lib.hid hF1
  have HK1 := Lib.hid hk1
  clear hF1 hk1 HT HB
  go_wp2_with fail
  refine (HC.out w1 (HE.out.below HB1.out)).mono ?_
  rintro e w2 ⟨rfl, hb2⟩
  have hF2 := HF1.out.kp hb2
  obtain ⟨c1, f1⟩ := hF2.okCell
  have HB2 := Lib.hid (HB1.out.trans (hb2.mono HB1.out.size))
  have HK2 : Hid (Kp (fun y => y = fb) w w2) := Lib.hid (HK1.out.below hb2)
  have HF2 := Lib.hid hF2
  clear hF2 hb2 HC HF1 HK1
  have HRES : ∀ b, b = (ok && g) → Hid (NextRes w0 fb L (ok && g) (fun _ v => v = iv z) w (.returned (iv z)) (w2.setCell ⟨fb, 1, none⟩ (.bool b))) := fun b hbb => Lib.hid ⟨_, rfl, rfl, by rw [← hbb]; exact fat_ok HF2.out b, HK2.out.setCell (fun _ => rfl) _, HB2.out.setCell (p := ⟨fb, 1, none⟩) HL.out _⟩
  cases ok with
  | false =>
    have HR := HRES false rfl
    clear HRES
    go_wp2
    go_ret
    exact HR.out
  | true =>
    have HR := HRES g (by simp)
    clear HRES
    go_wp2
    go_ret
    exact HR.out
set_option maxHeartbeats 1600000 in
set_option maxRecDepth 100000 in
theorem listIntIn_any (x : List UInt8) (pb : Nat) (w : World) (he : Env w) (hs : x.length ≤ 1000000000) (hp : w.cell? ⟨pb, 0, none⟩ = some (fnV 41)) :
    Calls Tryd.prog 73 #[sv x, .pointer (some ⟨pb, 0, none⟩)] w (ListIntRes x w) := by
  have HU := Lib.hid (listInt_any x w he hs)
  clear he
  go_enter Tryd.func73, Tryd.ntmps73
  go_wp2_with fail
  refine HU.out.mono ?_
  rintro e w1 ⟨lv, rfl, h2, h3⟩
  have HRES : Hid (ListIntRes x w (.returned (.tuple #[lv, .bool (rdList numv x).2])) w1) := Lib.hid ⟨lv, rfl, h2, h3⟩
  clear h2 h3 hp
  go_wp2
  go_ret2
  exact HRES.out
set_option maxHeartbeats 1600000 in
set_option maxRecDepth 100000 in
theorem nextInts_any (w0 : World) (fb pb : Nat) (x : List UInt8) (L : List (List UInt8)) (ok : Bool) (w : World) (he : Env w0) (hb : Below w0.heap.size w0 w) (h : FAt w0.heap.size fb w (x :: L) ok) (hx : x.length ≤ 1000000000) (hp : w.cell? ⟨pb, 0, none⟩ = some (fnV 41)) (hne : pb ≠ fb) :
    Calls Tryd.prog 72 #[.pointer (some ⟨fb, 0, none⟩), .func (.func 73) #[] #[.pointer (some ⟨pb, 0, none⟩)]] w (NextRes w0 fb L (ok && (rdList numv x).2) (fun w' v => IntsV w' (Nw w0 fb w') v (rdList numv x).1) w) := by
  have HT := Lib.hid (text_any w0.heap.size fb x L ok w h)
  have HL := Lib.hid h.low
  have HLT := Lib.hid h.lt
  have HC := Lib.hid fun (u : World) (hu : Env u) (hp : u.cell? ⟨pb, 0, none⟩ = some (fnV 41)) => listIntIn_any x pb u hu hx hp
  obtain ⟨g, hg⟩ : ∃ g, g = (rdList numv x).2 := ⟨_, rfl⟩
  have HP := Lib.hid hp
  unfold ListIntRes at HC
  rw [← hg] at HC
  rw [← hg]
  clear hg hx h hp
  have HE := Lib.hid he
  have HB := Lib.hid hb
  clear he hb
  go_enter Tryd.func72, Tryd.ntmps72
  go_wp2_with fail
  refine HT.out.mono ?_
  rintro e w1 ⟨rfl, hF1, hk1⟩
  have HB1 := Lib.hid (kpBelow HB.out hk1 fun y e => by rw [e]; exact HL.out)
  have HF1 := Lib.hid hF1
  have HK1 := Lib.hid hk1
  have HP1 : Hid (w1.cell? ⟨pb, 0, none⟩ = some (fnV 41)) := Lib.hid ((hk1.kept (S := fun y => y = pb) (fun b hb => by subst hb; exact ⟨block_lt_of_cell HP.out, hne⟩) ⟨pb, 0, none⟩ rfl).trans HP.out)
  clear hF1 hk1 HT HB
  go_wp2_with fail
  refine (HC.out w1 (HE.out.below HB1.out) HP1.out).mono ?_
  rintro e w2 ⟨lv, rfl, hints, hb2⟩
  have hF2 := HF1.out.kp hb2
  obtain ⟨c1, f1⟩ := hF2.okCell
  have HB2 := Lib.hid (HB1.out.trans (hb2.mono HB1.out.size))
  have HK2 : Hid (Kp (fun y => y = fb) w w2) := Lib.hid (HK1.out.below hb2)
  have HF2 := Lib.hid hF2
  have HI : Hid (IntsV w2 (Nw w0 fb w2) lv (rdList numv x).1) := Lib.hid (hints.more fun b hb => ⟨Nat.le_trans HB1.out.size hb.1, hb.2, by have := HF1.out.lt; have := hb.1; omega⟩)
  clear hF2 hb2 HC HF1 HK1 hints
  have HRES : ∀ b, b = (ok && g) → Hid (NextRes w0 fb L (ok && g) (fun w' v => IntsV w' (Nw w0 fb w') v (rdList numv x).1) w (.returned lv) (w2.setCell ⟨fb, 1, none⟩ (.bool b))) := fun b hbb => Lib.hid ⟨_, rfl, HI.out.nw (setKp _ _ _ _), by rw [← hbb]; exact fat_ok HF2.out b, HK2.out.setCell (fun _ => rfl) _, HB2.out.setCell (p := ⟨fb, 1, none⟩) HL.out _⟩
  cases ok with
  | false =>
    have HR := HRES false rfl
    clear HRES
    go_wp2
    go_ret
    exact HR.out
  | true =>
    have HR := HRES g (by simp)
    clear HRES
    go_wp2
    go_ret
    exact HR.out
set_option maxHeartbeats 1600000 in
set_option maxRecDepth 100000 in
theorem allInt_any (w0 : World) (fb : Nat) (x : List UInt8) (L : List (List UInt8)) (ok : Bool) (w : World) (he : Env w0) (hb : Below w0.heap.size w0 w) (h : FAt w0.heap.size fb w (x :: L) ok) (hx : x.length ≤ 1000000000) :
    Calls Tryd.prog 64 #[.pointer (some ⟨fb, 0, none⟩), fnV 41] w (NextRes w0 fb L (ok && (rdList numv x).2) (fun w' v => IntsV w' (Nw w0 fb w') v (rdList numv x).1) w) := by
  have hb1 : Below w.heap.size w (w.alloc (.cells #[fnV 41] 80)) := (Below.refl _ _).alloc (Nat.le_refl _) _
  have hlt := h.lt
  have HC := Lib.hid (nextInts_any w0 fb w.heap.size x L ok (w.alloc (.cells #[fnV 41] 80)) he (hb.trans (hb1.mono hb.size)) (h.kp hb1) hx ((Lib.cell_of_heap (alloc1 w _) _).trans rfl) (by omega))
  have HB1 := Lib.hid hb1
  clear he hb h hb1
  go_enter Tryd.func64, Tryd.ntmps64
  go_wp2_with fail
  refine HC.out.mono ?_
  rintro e w1 ⟨v, rfl, h1, h2, h3, h4⟩
  have HRES : Hid (NextRes w0 fb L (ok && (rdList numv x).2) (fun w' v => IntsV w' (Nw w0 fb w') v (rdList numv x).1) w (.returned v) w1) := Lib.hid ⟨v, rfl, h1, h2, (Kp.ofBelow HB1.out).trans h3 (fun _ _ e => e), h4⟩
  clear h1 h2 h3 h4
  go_wp2
  go_ret
  exact HRES.out
end
end Go.Proofs.YtkggmckfdkpldaaDoor
