/-
  The walk of fact.list over operations.
  Conditions: 'Env'; texts of at most 10^9 bytes.
-/
import Derived.Test.YtkggmckfdkpldaaDoorFcH
namespace Go.Proofs.YtkggmckfdkpldaaDoor
open Go.RowKit

theorem infoOp : (Tryd.prog.info? 60).map (fun i => (i.zero, i.size, i.bytes)) = some (some (.agg #[.int .i64 0, .int .i64 0, .int .i64 0, .int .i64 0, .slice none 0 0, .string ⟨#[]⟩]), 6, 72) := by kernel_rfl
def ListOpRes (s : List UInt8) (w : World) (e : Ending) (w' : World) : Prop :=
  ∃ lv, e = .returned (.tuple #[lv, .bool (rdList opR s).2]) ∧ OpsV w' (Fr w.heap.size w'.heap.size) lv (rdList opR s).1 ∧ Below w.heap.size w w'
theorem OpsV.nil (w : World) (S : Nat → Prop) : OpsV w S (.slice none 0 0) [] := ⟨none, 0, [], rfl, rfl, Ops.nil _ _⟩
/-- The operations read so far: a row of the call's own, and their lists beside it. -/
structure OpsAt (B : Nat) (w : World) (v : Value) (vs : List OV) : Prop where
  own : w.ownsRow B 60 6 v vs.length (flt ovC vs)
  each : ∀ u ∈ vs, IntsV w (fun b => B ≤ b ∧ b < w.heap.size ∧ some b ≠ v.ownBlock) u.lv u.o.list
theorem OpsAt.below {B : Nat} {w w' : World} {v : Value} {vs : List OV} (h : OpsAt B w v vs) (hb : Below w.heap.size w w') : OpsAt B w' v vs :=
  ⟨h.own.kept (grownOfB hb none) (ownNone _), fun u hu => ((h.each u hu).keep fun p hp => hb.cell hp.2.1).more fun b hb' => ⟨hb'.1, Nat.lt_of_lt_of_le hb'.2.1 hb.size, hb'.2.2⟩⟩
theorem OpsAt.put {B : Nat} {w w' : World} {v v' : Value} {vs : List OV} {u : OV} (h : OpsAt B w v vs) (hu : IntsV w (fun b => B ≤ b ∧ b < w.heap.size ∧ some b ≠ v.ownBlock) u.lv u.o.list) (ho : w'.ownsRow B 60 6 v' (vs.length + 1) (flt ovC vs ++ ovC u)) (hg : w.grownBy w' v.ownBlock) (ha : v'.ownBlock = v.ownBlock ∨ v'.ownBlock = some w.heap.size) : OpsAt B w' v' (vs ++ [u]) := by
  have key : ∀ y : OV, IntsV w (fun b => B ≤ b ∧ b < w.heap.size ∧ some b ≠ v.ownBlock) y.lv y.o.list → IntsV w' (fun b => B ≤ b ∧ b < w'.heap.size ∧ some b ≠ v'.ownBlock) y.lv y.o.list := fun y hy =>
    (hy.keep (keptGrown hg fun b hb => ⟨hb.2.1, hb.2.2⟩)).more fun b hb => ⟨hb.1, Nat.lt_of_lt_of_le hb.2.1 hg.size, fun e => by
      rcases ha with ha | ha
      · exact hb.2.2 (e.trans ha)
      · have := Option.some.inj (e.trans ha)
        have := hb.2.1
        omega⟩
  refine ⟨?_, fun y hy => ?_⟩
  · rw [flt_append, flt_one, List.length_append]
    exact ho
  · rcases List.mem_append.1 hy with hy | hy
    · exact key y (h.each y hy)
    · rw [List.mem_singleton.1 hy]
      exact key u hu
set_option maxHeartbeats 3200000 in
set_option maxRecDepth 100000 in
theorem listOp_any (s : List UInt8) (w : World) (he : Env w) (hs : s.length ≤ 1000000000) :
    Calls Tryd.prog 62 #[sv s, fnV 43] w (ListOpRes s w) := by
  obtain ⟨i0, hi, hz0, hz1, hz2⟩ := info_parts infoOp
  have HU := Lib.hid (unpack_any s w he hs)
  have HE := Lib.hid he
  clear he
  go_enter Tryd.func62, Tryd.ntmps62
  go_wp2_with fail
  refine HU.out.mono ?_
  rintro e w1 ⟨hend, hb⟩
  have HB := Lib.hid hb
  rcases hend with ⟨L, v, rfl, rfl, hown⟩ | ⟨hno, rfl⟩
  · obtain ⟨A, c, rfl, _⟩ := own_slice hown
    have hst : Row w1 (Lt w1.heap.size) A (L.map sv) := Row.ofOwn hown fun _ _ _ h => h
    obtain ⟨n, hn⟩ : ∃ n, n = L.length := ⟨_, rfl⟩
    have hn9 : n ≤ 1000000000 := by have := pack_count L; omega
    rw [← hn]
    have HN := Lib.hid hn
    have HST := Lib.hid hst
    have HSZ := Lib.hid hs
    clear hn hst hown hs hb
    go_wp2_with fail
    go_loopw [22, 8] (fun i v wr => ∃ (k : Nat) (vs : List OV), k ≤ n ∧ i = .int .i64 k ∧ vs.length = k ∧ vs.map OV.o = (L.take k).map (fun x => (opR x).1) ∧ OpsAt w1.heap.size wr v vs ∧ (∀ x ∈ L.take k, (opR x).2 = true) ∧ Below w1.heap.size w1 wr) (fun i _ _ => n - (intOf i).toNat)
    case atStart => exact ⟨0, [], Nat.zero_le _, rfl, rfl, rfl, ⟨World.ownsRow_nil _ _ _ _, by simp⟩, (fun x h => by simp at h), Below.refl _ _⟩
    case round =>
      obtain ⟨k, vs, hk, rfl, hvl, hvm, hown, hall, hb⟩ := hrel
      have HBR := Lib.hid hb
      have HO := Lib.hid hown
      have HAL := Lib.hid hall
      have HVM := Lib.hid hvm
      have HVL := Lib.hid hvl
      clear hall hvm hvl
      by_cases hlt : k < n
      · obtain ⟨x, hx⟩ : ∃ x, L[k]? = some x := ⟨_, List.getElem?_eq_getElem (by rw [← HN.out]; exact hlt)⟩
        obtain ⟨ad, hA, _, a0⟩ := (HST.out.keep (kept_below hb)).at_ (k := k) (u := sv x) (by simp [hx])
        have hxl : x.length ≤ 1000000000 := Nat.le_trans (pack_elem hx) HSZ.out
        have HX := Lib.hid hx
        have HAD := Lib.hid hA
        rw [hA]
        have HCL := Lib.hid (readOp_any x wr (HE.out.below (HB.out.trans (hb.mono HB.out.size))) hxl)
        have hik : (0 : Int) ≤ (k : Int) ∧ (k : Int) < (n : Int) := ⟨by omega, by omega⟩
        obtain ⟨g, hg⟩ : ∃ g, g = (opR x).2 := ⟨_, rfl⟩
        obtain ⟨o, ho⟩ : ∃ o, o = (opR x).1 := ⟨_, rfl⟩
        unfold ReadOpRes at HCL
        rw [← hg, ← ho] at HCL
        have HG := Lib.hid hg
        have HOX := Lib.hid ho
        clear hA hx hxl hb hown hg ho
        go_wp2_with fail
        refine HCL.out.mono ?_
        rintro e w2 ⟨lv, rfl, ⟨LA, lc, hlv, hlr⟩, hb2⟩
        obtain ⟨m, hm⟩ : ∃ m, m = o.list.length := ⟨_, rfl⟩
        rw [← hm] at hlv
        subst hlv
        have HLV : Hid (IntsV w2 (Fr wr.heap.size w2.heap.size) (.slice LA m lc) o.list) := Lib.hid ⟨LA, lc, by rw [hm], hlr⟩
        have HB2 := Lib.hid (HBR.out.trans (hb2.mono HBR.out.size))
        have HB2R := Lib.hid hb2
        clear hm hlr HCL a0 hb2
        cases g with
        | false =>
          have hbz : Below w2.heap.size w2 (w2.alloc (.cells #[iv o.kind, iv o.a, iv o.b, iv o.c, .slice LA m lc, sv o.sym] 60)) := (Below.refl _ _).alloc (Nat.le_refl _) _
          have HRES : Hid (ListOpRes (pack L) w (.returned (.tuple #[.slice none 0 0, .bool false])) (w2.alloc (.cells #[iv o.kind, iv o.a, iv o.b, iv o.c, .slice LA m lc, sv o.sym] 60))) := Lib.hid (by
            have e1 := rdList_no (f := opR) (List.mem_of_getElem? HX.out) HG.out.symm
            refine ⟨.slice none 0 0, by rw [e1], by rw [e1]; exact OpsV.nil _ _, (HB.out.trans (HB2.out.mono HB.out.size)).trans (hbz.mono (Nat.le_trans HB.out.size HB2.out.size))⟩)
          clear hbz
          go_wp2
          go_ret2
          exact HRES.out
        | true =>
          have hOw := HO.out.below HB2R.out
          obtain ⟨OA, oc, rfl, _⟩ := own_slice hOw.own
          have hsz2 := HB2.out.size
          obtain ⟨wb, hwb⟩ : ∃ wb, wb = ((w2.alloc (.cells #[.int .i64 o.kind, .int .i64 o.a, .int .i64 o.b, .int .i64 o.c, .slice LA m lc, .string (bs o.sym)] 60)).alloc (.cells #[.int .i64 o.kind, .int .i64 o.a, .int .i64 o.b, .int .i64 o.c, .slice LA m lc, .string (bs o.sym)] 60)) := ⟨_, rfl⟩
          have hb3 : Below w2.heap.size w2 wb := by rw [hwb]; exact ((Below.refl _ _).alloc (Nat.le_refl _) _).alloc (by simp) _
          have hnews : ∀ (j : Nat) (y : Value), (ovC ⟨o, .slice LA m lc⟩)[j]? = some y → wb.cell? ((⟨w2.heap.size + 1, 0, none⟩ : Addr).add j) = some y := by
            rw [hwb]
            exact World.news_of_block (cs := #[.int .i64 o.kind, .int .i64 o.a, .int .i64 o.b, .int .i64 o.c, .slice LA m lc, .string (bs o.sym)]) ((alloc2 w2 _ _).2)
          have hOw3 := hOw.below hb3
          have hb3s := hb3.size
          clear hOw
          subst hwb
          have hsza : ((w2.alloc (.cells #[.int .i64 o.kind, .int .i64 o.a, .int .i64 o.b, .int .i64 o.c, .slice LA m lc, .string (bs o.sym)] 60)).alloc (.cells #[.int .i64 o.kind, .int .i64 o.a, .int .i64 o.b, .int .i64 o.c, .slice LA m lc, .string (bs o.sym)] 60)).heap.size = w2.heap.size + 2 := by simp
          have HNEW := Lib.hid hnews
          clear hnews
          go_wp2_with (at_builtin; go_loud (refine wpList_append_lies _ rfl (.tmp 34) (.tmp 36) 35 rfl w1.heap.size 60 i0 (.agg #[.int .i64 0, .int .i64 0, .int .i64 0, .int .i64 0, .slice none 0 0, .string ⟨#[]⟩]) 6 72 Tryd.underlying35 hi hz0 hz1 hz2 rfl (by decide) (.slice OA vs.length oc) vs.length _ rfl hOw3.own ⟨w2.heap.size + 1, 0, none⟩ 1 1 (ovC ⟨o, .slice LA m lc⟩) rfl rfl HNEW.out ?c2 (by decide) ?c3 ?c4 ?c5 (w2.heap.size + 2) hsza ?_))
          case c2 =>
            intro u hu
            simp [ovC] at hu
            rcases hu with rfl | rfl | rfl | rfl | rfl | rfl <;> rfl
          case c3 => have := HVL.out; unfold maxLen; omega
          case c4 => have := HVL.out; omega
          case c5 => exact Nat.le_trans hsz2 hb3s
          rintro g3 cap3 w3 hown3 hgrow hat hlt3
          have hOp3 := hOw3.put (u := ⟨o, .slice LA m lc⟩) ((HLV.out.keep fun p hp => hb3.cell hp.2).more fun b hb => ⟨Nat.le_trans HBR.out.size hb.1, Nat.lt_of_lt_of_le hb.2 hb3s, fun e => by
            have := HO.out.own.lt b e.symm
            have := hb.1
            omega⟩) hown3 hgrow (hat.elim (fun e => .inl e.symm) fun e => .inr (by rw [e, hsza]; rfl))
          have hb4 : Below w1.heap.size w1 w3 := (HB2.out.trans (hb3.mono hsz2)).grown hgrow (by omega) (fun g hg => (hOw3.own.lt g hg).1)
          have HB4 := Lib.hid hb4
          have HO3 := Lib.hid hOp3
          clear hgrow hown3 hb4 hOp3 hOw3 hb3 hat HNEW hsza
          go_wp2
          try rw [← HAD.out]
          go_roundw
          case rel =>
            refine ⟨k + 1, vs ++ [⟨o, .slice LA m lc⟩], by omega, by go_num, by simp [HVL.out], ?_, HO3.out, fun y hy => ?_, HB4.out⟩
            · rw [List.map_append, HVM.out, List.take_add_one, HX.out, List.map_append]
              simp [HOX.out]
            · rw [List.take_add_one, HX.out, List.mem_append] at hy
              rcases hy with hy | hy
              · exact HAL.out y hy
              · obtain rfl : y = x := by simpa using hy
                exact HG.out.symm
          case measure => simp [intOf]; omega
      · obtain rfl : k = n := by omega
        obtain ⟨OA, oc, rfl, _⟩ := own_slice hown.own
        have HRES : Hid (ListOpRes (pack L) w (.returned (.tuple #[.slice OA vs.length oc, .bool true])) wr) := Lib.hid (by
          have h1 := HAL.out
          rw [HN.out] at h1
          have e1 := rdList_take (f := opR) h1
          refine ⟨_, by rw [e1], ?_, HB.out.trans (hb.mono HB.out.size)⟩
          rw [e1]
          refine ⟨OA, oc, vs, rfl, by rw [HVM.out, HN.out, List.take_length], Row.ofOwn hown.own fun g _ h3 h4 => ⟨Nat.le_trans HB.out.size h3, h4⟩, fun u hu => (hown.each u hu).more fun b hb' => ⟨Nat.le_trans HB.out.size hb'.1, hb'.2.1⟩⟩)
        clear hown hb
        go_wp2
        go_ret2
        exact HRES.out
  · have HRES : Hid (ListOpRes s w (.returned (.tuple #[.slice none 0 0, .bool false])) w1) := Lib.hid (by
      have e1 := rdList_bad (f := opR) hno
      refine ⟨.slice none 0 0, by rw [e1], by rw [e1]; exact OpsV.nil _ _, hb⟩)
    clear hno hb
    go_wp2
    go_ret2
    exact HRES.out
end Go.Proofs.YtkggmckfdkpldaaDoor
