/-
  The walks of fact.done over operations and of readOp.
  Conditions: 'Env'; texts of at most 10^9 bytes.
  The walk of fact.list over operations.
  Conditions: 'Env'; texts of at most 10^9 bytes.
  The walks of fact.next and all over operations, done over codes, ReadCode.
  Conditions: 'Env'; texts of at most 10^9 bytes.
-/
import Derived.Test.YtkggmckfdkpldaaDoorFcG
namespace Go.Proofs.YtkggmckfdkpldaaDoor
section
open Go.RowKit
abbrev opZ : Value := .agg #[iv 0, iv 0, iv 0, iv 0, .slice none 0 0, sv []]
set_option maxHeartbeats 1600000 in
set_option maxRecDepth 100000 in
theorem doneOp_any (B fb : Nat) (L : List (List UInt8)) (ok : Bool) (o : OpF) (A : Option Addr) (n c : Nat) (w : World) (h : FAt B fb w L ok) :
    Calls Tryd.prog 63 #[.pointer (some ⟨fb, 0, none⟩), opV o (.slice A n c)] w fun e w' => e = .returned (.tuple #[if ok = true then opV o (.slice A n c) else opZ, .bool ok]) ∧ Below w.heap.size w w' := by
  obtain ⟨ok', oa, ob, oc, ol, os⟩ := o
  have c1 := h.okCell.1
  have hlt := h.lt
  clear h
  cases ok with
  | false =>
    go_enter Tryd.func63, Tryd.ntmps63
    go_wp2
    refine bodyPost_ret (v := .tuple #[opZ, .bool false]) (by simp [results, Tryd.results63, go_sem]; rfl) rfl ⟨rfl, ?_⟩
    exact (((Below.refl _ _).alloc (Nat.le_refl _) _).alloc (by simp) _).alloc (by simp; omega) _
  | true =>
    go_enter Tryd.func63, Tryd.ntmps63
    go_wp2
    all_goals
      refine bodyPost_ret (v := .tuple #[opV ⟨ok', oa, ob, oc, ol, os⟩ (.slice A n c), .bool true]) (by simp [results, Tryd.results63, go_sem]) rfl ⟨rfl, ?_⟩
      exact ((Below.refl _ _).alloc (Nat.le_refl _) _).alloc (by simp) _
/-- An operation is read out of six fields. -/
theorem opR_opn {s x0 x1 x2 x3 x4 x5 : List UInt8} {ok : Bool} (h : opn s 6 = ([x0, x1, x2, x3, x4, x5], ok)) :
    opR s = if (ok && (numv x0).2 && (numv x1).2 && (numv x2).2 && (numv x3).2 && (rdList numv x4).2) = true then (⟨(numv x0).1, (numv x1).1, (numv x2).1, (numv x3).1, (rdList numv x4).1, x5⟩, true) else (OpF.zero, false) := by
  unfold opn at h
  unfold opR
  by_cases hc : (unpk s).2 = true ∧ (unpk s).1.length = 6
  · rw [if_pos hc] at h
    have e1 := (Prod.mk.inj h).1
    have e2 := (Prod.mk.inj h).2
    rw [show unpk s = ([x0, x1, x2, x3, x4, x5], true) from Prod.ext e1 hc.1]
    simp only [← e2, Bool.true_and, Bool.and_eq_true, and_assoc]
  · rw [if_neg hc] at h
    have e2 := (Prod.mk.inj h).2
    rw [← e2]
    simp only [Bool.false_and, Bool.false_eq_true, if_false]
    split
    · rename_i e
      rw [e] at hc
      exact absurd ⟨rfl, rfl⟩ hc
    · rfl
theorem six {α : Type} {L : List α} (h : L.length = 6) : ∃ x0 x1 x2 x3 x4 x5, L = [x0, x1, x2, x3, x4, x5] := by
  match L, h with
  | [x0, x1, x2, x3, x4, x5], _ => exact ⟨x0, x1, x2, x3, x4, x5, rfl⟩
/-- How an operation is read. -/
def ReadOpRes (s : List UInt8) (w : World) (e : Ending) (w' : World) : Prop :=
  ∃ lv, e = .returned (.tuple #[opV (opR s).1 lv, .bool (opR s).2]) ∧ IntsV w' (Fr w.heap.size w'.heap.size) lv (opR s).1.list ∧ Below w.heap.size w w'
theorem keep6 (w : World) (b : Nat) (v0 v1 v2 v3 v4 v5 : Value) : Kp (fun y => y = b) w ((((((w.setCell ⟨b, 0, none⟩ v0).setCell ⟨b, 1, none⟩ v1).setCell ⟨b, 2, none⟩ v2).setCell ⟨b, 3, none⟩ v3).setCell ⟨b, 4, none⟩ v4).setCell ⟨b, 5, none⟩ v5) :=
  Kp.setCell (M := fun y => y = b) (Kp.setCell (M := fun y => y = b) (Kp.setCell (M := fun y => y = b) (Kp.setCell (M := fun y => y = b) (Kp.setCell (M := fun y => y = b) (Kp.setCell (M := fun y => y = b) (Kp.refl _ _) (fun _ => rfl) v0) (fun _ => rfl) v1) (fun _ => rfl) v2) (fun _ => rfl) v3) (fun _ => rfl) v4) (fun _ => rfl) v5
set_option maxHeartbeats 1600000 in
set_option maxRecDepth 100000 in
theorem readOp_any (s : List UInt8) (w : World) (he : Env w) (hs : s.length ≤ 1000000000) :
    Calls Tryd.prog 43 #[sv s] w (ReadOpRes s w) := by
  obtain ⟨wa, hwa⟩ : ∃ wa, wa = w.alloc (.cells #[.int .i64 0, .int .i64 0, .int .i64 0, .int .i64 0, .slice none 0 0, .string ⟨#[]⟩] 60) := ⟨_, rfl⟩
  have hba : Below w.heap.size w wa := by rw [hwa]; exact (Below.refl _ _).alloc (Nat.le_refl _) _
  have HA : Hid (wa.heap[w.heap.size]? = some (.cells #[.int .i64 0, .int .i64 0, .int .i64 0, .int .i64 0, .slice none 0 0, .string ⟨#[]⟩] 60 (0, 0))) := Lib.hid (by rw [hwa]; exact alloc1 _ _)
  have HZA : Hid (wa.heap.size = w.heap.size + 1) := Lib.hid (by rw [hwa]; simp)
  have hea := he.below hba
  have HOP := Lib.hid (open_any s 6 wa hea hs (by decide))
  have HE := Lib.hid hea
  have HBA := Lib.hid hba
  obtain ⟨x0, x1, x2, x3, x4, x5, hL⟩ := six (opn_len s 6)
  obtain ⟨ok, hok⟩ : ∃ ok, ok = (opn s 6).2 := ⟨_, rfl⟩
  have hle : ∀ x ∈ [x0, x1, x2, x3, x4, x5], x.length ≤ 1000000000 := fun x hx => Nat.le_trans (opn_le (by rw [hL]; exact hx)) hs
  have HX0 := Lib.hid (hle x0 (by simp))
  have HX1 := Lib.hid (hle x1 (by simp))
  have HX2 := Lib.hid (hle x2 (by simp))
  have HX3 := Lib.hid (hle x3 (by simp))
  have HX4 := Lib.hid (hle x4 (by simp))
  have HOR := Lib.hid (opR_opn (s := s) (Prod.ext hL hok.symm))
  have HOP2 : Hid (Calls Tryd.prog 38 #[sv s, .int .i64 6] wa fun e w' => ∃ fb, e = .returned (.pointer (some ⟨fb, 0, none⟩)) ∧ fb < w'.heap.size ∧ FAt wa.heap.size fb w' [x0, x1, x2, x3, x4, x5] ok ∧ Below wa.heap.size wa w') := Lib.hid (by
    have h := HOP.out
    unfold OpenRes at h
    rw [hL, ← hok] at h
    exact h)
  clear HOP hba hea he hle hok hL
  go_enter Tryd.func43, Tryd.ntmps43
  go_wp2_with fail
  rw [← hwa]
  refine HOP2.out.mono ?_
  rintro e w1 ⟨fb, rfl, hfl, hF, hb⟩
  have HB1 := Lib.hid hb
  have HF1 := Lib.hid hF
  clear hF hb HOP2 hfl hwa
  go_wp2_with fail
  refine (nextInt_any wa fb x0 _ _ w1 HE.out HB1.out HF1.out HX0.out).mono ?_
  rintro e w2 ⟨v, rfl, rfl, hF, hk, hb⟩
  have HB2 := Lib.hid hb
  have HF2 := Lib.hid hF
  clear hF hk hb HB1 HF1
  go_wp2_with fail
  refine (nextInt_any wa fb x1 _ _ w2 HE.out HB2.out HF2.out HX1.out).mono ?_
  rintro e w3 ⟨v, rfl, rfl, hF, hk, hb⟩
  have HB3 := Lib.hid hb
  have HF3 := Lib.hid hF
  clear hF hk hb HB2 HF2
  go_wp2_with fail
  refine (nextInt_any wa fb x2 _ _ w3 HE.out HB3.out HF3.out HX2.out).mono ?_
  rintro e w4 ⟨v, rfl, rfl, hF, hk, hb⟩
  have HB4 := Lib.hid hb
  have HF4 := Lib.hid hF
  clear hF hk hb HB3 HF3
  go_wp2_with fail
  refine (nextInt_any wa fb x3 _ _ w4 HE.out HB4.out HF4.out HX3.out).mono ?_
  rintro e w5 ⟨v, rfl, rfl, hF, hk, hb⟩
  have HB5 := Lib.hid hb
  have HF5 := Lib.hid hF
  clear hF hk hb HB4 HF4
  go_wp2_with fail
  refine (allInt_any wa fb x4 _ _ w5 HE.out HB5.out HF5.out HX4.out).mono ?_
  rintro e w6 ⟨lv, rfl, hI, hF, hk, hb⟩
  have HB6 := Lib.hid hb
  have HF6 := Lib.hid hF
  have HI6 := Lib.hid hI
  clear hF hk hb hI HB5 HF5
  go_wp2_with fail
  refine (text_any wa.heap.size fb x5 _ _ w6 HF6.out).mono ?_
  rintro e w7 ⟨rfl, hF, hk⟩
  have HB7 := Lib.hid (kpBelow HB6.out hk fun y e => by rw [e]; exact HF6.out.low)
  have HI7 := Lib.hid (HI6.out.nw hk)
  have HF7 := Lib.hid hF
  clear hF hk HF6 HB6 HI6
  obtain ⟨LA, lc, rfl, hrow⟩ := HI7.out
  obtain ⟨m, hm⟩ : ∃ m, m = (rdList numv x4).1.length := ⟨_, rfl⟩
  rw [← hm]
  have HM := Lib.hid hm
  have HROW := Lib.hid hrow
  clear hm hrow HI7
  go_wp2_with fail
  refine (doneOp_any wa.heap.size fb [] _ ⟨(numv x0).1, (numv x1).1, (numv x2).1, (numv x3).1, (rdList numv x4).1, x5⟩ LA m lc w7 HF7.out).mono ?_
  rintro e w8 ⟨rfl, hb8⟩
  have HB8 := Lib.hid (HB7.out.trans (hb8.mono HB7.out.size))
  have HROW8 := Lib.hid (HROW.out.keep (fun p hp => hb8.cell hp.2.1))
  have hsz8 := hb8.size
  obtain ⟨fin, hfin⟩ : ∃ fin, fin = (ok && (numv x0).2 && (numv x1).2 && (numv x2).2 && (numv x3).2 && (rdList numv x4).2) := ⟨_, rfl⟩
  have HOR2 := HOR.out
  rw [← hfin] at HOR2 ⊢
  have hh8 := (HB8.out.block w.heap.size (by rw [HZA.out]; omega)).trans HA.out
  clear hfin HOR
  have z0 : w8.cell? ⟨w.heap.size, 0, none⟩ = some (.int .i64 0) := (Lib.cell_of_heap hh8 _).trans rfl
  have f0 : w8.frozen? ⟨w.heap.size, 0, none⟩ = false := Lib.frozen_of_heap hh8 0
  have z1 : w8.cell? ⟨w.heap.size, 1, none⟩ = some (.int .i64 0) := (Lib.cell_of_heap hh8 _).trans rfl
  have f1 : w8.frozen? ⟨w.heap.size, 1, none⟩ = false := Lib.frozen_of_heap hh8 1
  have z2 : w8.cell? ⟨w.heap.size, 2, none⟩ = some (.int .i64 0) := (Lib.cell_of_heap hh8 _).trans rfl
  have f2 : w8.frozen? ⟨w.heap.size, 2, none⟩ = false := Lib.frozen_of_heap hh8 2
  have z3 : w8.cell? ⟨w.heap.size, 3, none⟩ = some (.int .i64 0) := (Lib.cell_of_heap hh8 _).trans rfl
  have f3 : w8.frozen? ⟨w.heap.size, 3, none⟩ = false := Lib.frozen_of_heap hh8 3
  have z4 : w8.cell? ⟨w.heap.size, 4, none⟩ = some (.slice none 0 0) := (Lib.cell_of_heap hh8 _).trans rfl
  have f4 : w8.frozen? ⟨w.heap.size, 4, none⟩ = false := Lib.frozen_of_heap hh8 4
  have z5 : w8.cell? ⟨w.heap.size, 5, none⟩ = some (.string ⟨#[]⟩) := (Lib.cell_of_heap hh8 _).trans rfl
  have f5 : w8.frozen? ⟨w.heap.size, 5, none⟩ = false := Lib.frozen_of_heap hh8 5
  have HH8 := Lib.hid hh8
  clear hh8
  cases fin with
  | false =>
    simp only [Bool.false_eq_true, if_false] at HOR2 ⊢
    go_wp2
    refine bodyPost_ret (v := .tuple #[opZ, .bool false]) (by simp [results, Tryd.results43, go_sem, z0, z1, z2, z3, z4, z5]; try rfl) rfl ?_
    have hk := keep6 w8 w.heap.size (.int .i64 0) (.int .i64 0) (.int .i64 0) (.int .i64 0) (.slice none 0 0) (.string (bs []))
    have hbf := kpBelow (HBA.out.trans (HB8.out.mono HBA.out.size)) hk (fun y e => by rw [e]; exact Nat.le_refl _)
    · unfold ReadOpRes
      rw [HOR2]
      exact ⟨.slice none 0 0, rfl, IntsV.nil _ _, hbf⟩
  | true =>
    simp only [if_true] at HOR2 ⊢
    go_wp2
    refine bodyPost_ret (v := .tuple #[(opV ⟨(numv x0).1, (numv x1).1, (numv x2).1, (numv x3).1, (rdList numv x4).1, x5⟩ (.slice LA m lc)), .bool true]) (by simp [results, Tryd.results43, go_sem, z0, z1, z2, z3, z4, z5]; try rfl) rfl ?_
    have hk := keep6 w8 w.heap.size (iv (numv x0).1) (iv (numv x1).1) (iv (numv x2).1) (iv (numv x3).1) (.slice LA m lc) (sv x5)
    have hbf := kpBelow (HBA.out.trans (HB8.out.mono HBA.out.size)) hk (fun y e => by rw [e]; exact Nat.le_refl _)
    · unfold ReadOpRes
      rw [HOR2]
      refine ⟨.slice LA m lc, rfl, ⟨LA, lc, by rw [HM.out], (HROW8.out.keep (hk.kept fun b hb => ⟨Nat.lt_of_lt_of_le hb.2.1 hsz8, by have := HZA.out; have := hb.1; omega⟩)).more fun b hb => ⟨by have := HZA.out; have := hb.1; omega, Nat.lt_of_lt_of_le hb.2.1 (Nat.le_trans hsz8 hk.size)⟩⟩, hbf⟩
end

section
open Go.RowKit
theorem infoOp : (Tryd.prog.info? 60).map (fun i => (i.zero, i.size, i.bytes)) = some (some (.agg #[.int .i64 0, .int .i64 0, .int .i64 0, .int .i64 0, .slice none 0 0, .string ⟨#[]⟩]), 6, 72) := by kernel_rfl
def ListOpRes (s : List UInt8) (w : World) (e : Ending) (w' : World) : Prop :=
  ∃ lv, e = .returned (.tuple #[lv, .bool (rdList opR s).2]) ∧ OpsV w' (Fr w.heap.size w'.heap.size) lv (rdList opR s).1 ∧ Below w.heap.size w w'
theorem OpsV.nil (w : World) (S : Nat → Prop) : OpsV w S (.slice none 0 0) [] := ⟨none, 0, [], rfl, rfl, Ops.nil _ _⟩
/-- The operations read so far: a row of the call's own, and their lists beside it. -/
structure OpsAt (B : Nat) (w : World) (v : Value) (vs : List OV) : Prop where
  own : w.ownsRow B 60 6 v vs.length (flt ovC vs)
  each : ∀ u ∈ vs, IntsV w (fun b => B ≤ b ∧ b < w.heap.size ∧ some b ≠ v.ownBlock) u.lv u.o.list
theorem OpsAt.below {B : Nat} {w w' : World} {v : Value} {vs : List OV} (h : OpsAt B w v vs) (hb : Below w.heap.size w w') : OpsAt B w' v vs :=
  ⟨h.own.kept (grownOfB hb none) (ownNone _), fun u hu => ((h.each u hu).keep fun p hp => hb.cell hp.2.1).more fun b hb' => ⟨hb'.1, Nat.lt_of_lt_of_le hb'.2.1 hb.size, hb'.2.2⟩⟩
theorem OpsAt.put {B : Nat} {w w' : World} {v v' : Value} {vs : List OV} {u : OV} (h : OpsAt B w v vs) (hu : IntsV w (fun b => B ≤ b ∧ b < w.heap.size ∧ some b ≠ v.ownBlock) u.lv u.o.list) (ho : w'.ownsRow B 60 6 v' (vs.length + 1) (flt ovC vs ++ ovC u)) (hg : w.grownBy w' v.ownBlock) (ha : v'.ownBlock = v.ownBlock ∨ v'.ownBlock = some w.heap.size) : OpsAt B w' v' (vs ++ [u]) := by
  have key : ∀ y : OV, IntsV w (fun b => B ≤ b ∧ b < w.heap.size ∧ some b ≠ v.ownBlock) y.lv y.o.list → IntsV w' (fun b => B ≤ b ∧ b < w'.heap.size ∧ some b ≠ v'.ownBlock) y.lv y.o.list := fun y hy =>
    (hy.keep (keptGrown hg fun b hb => ⟨hb.2.1, hb.2.2⟩)).more fun b hb => ⟨hb.1, Nat.lt_of_lt_of_le hb.2.1 hg.size, fun e => by
      rcases ha with ha | ha
      · exact hb.2.2 (e.trans ha)
      · have := Option.some.inj (e.trans ha)
        have := hb.2.1
        omega⟩
  refine ⟨?_, fun y hy => ?_⟩
  · rw [flt_append, flt_one, List.length_append]
    exact ho
  · rcases List.mem_append.1 hy with hy | hy
    · exact key y (h.each y hy)
    · rw [List.mem_singleton.1 hy]
      exact key u hu
set_option maxHeartbeats 3200000 in
set_option maxRecDepth 100000 in
theorem listOp_any (s : List UInt8) (w : World) (he : Env w) (hs : s.length ≤ 1000000000) :
    Calls Tryd.prog 62 #[sv s, fnV 43] w (ListOpRes s w) := by
  obtain ⟨i0, hi, hz0, hz1, hz2⟩ := info_parts infoOp
  have HU := Lib.hid (unpack_any s w he hs)
  have HE := Lib.hid he
  clear he
  go_enter Tryd.func62, Tryd.ntmps62
  go_wp2_with fail
  refine HU.out.mono ?_
  rintro e w1 ⟨hend, hb⟩
  have HB := Lib.hid hb
  rcases hend with ⟨L, v, rfl, rfl, hown⟩ | ⟨hno, rfl⟩
  · obtain ⟨A, c, rfl, _⟩ := own_slice hown
    have hst : Row w1 (Lt w1.heap.size) A (L.map sv) := Row.ofOwn hown fun _ _ _ h => h
    obtain ⟨n, hn⟩ : ∃ n, n = L.length := ⟨_, rfl⟩
    have hn9 : n ≤ 1000000000 := by have := pack_count L; omega
    rw [← hn]
    have HN := Lib.hid hn
    have HST := Lib.hid hst
    have HSZ := Lib.hid hs
    clear hn hst hown hs hb
    go_wp2_with fail
    go_loopw [22, 8] (fun i v wr => ∃ (k : Nat) (vs : List OV), k ≤ n ∧ i = .int .i64 k ∧ vs.length = k ∧ vs.map OV.o = (L.take k).map (fun x => (opR x).1) ∧ OpsAt w1.heap.size wr v vs ∧ (∀ x ∈ L.take k, (opR x).2 = true) ∧ Below w1.heap.size w1 wr) (fun i _ _ => n - (intOf i).toNat)
    case atStart => exact ⟨0, [], Nat.zero_le _, rfl, rfl, rfl, ⟨World.ownsRow_nil _ _ _ _, by simp⟩, (fun x h => by simp at h), Below.refl _ _⟩
    case round =>
      obtain ⟨k, vs, hk, rfl, hvl, hvm, hown, hall, hb⟩ := hrel
      have HBR := Lib.hid hb
      have HO := Lib.hid hown
      have HAL := Lib.hid hall
      have HVM := Lib.hid hvm
      have HVL := Lib.hid hvl
      clear hall hvm hvl
      by_cases hlt : k < n
      · obtain ⟨x, hx⟩ : ∃ x, L[k]? = some x := ⟨_, List.getElem?_eq_getElem (by rw [← HN.out]; exact hlt)⟩
        obtain ⟨ad, hA, _, a0⟩ := (HST.out.keep (kept_below hb)).at_ (k := k) (u := sv x) (by simp [hx])
        have hxl : x.length ≤ 1000000000 := Nat.le_trans (pack_elem hx) HSZ.out
        have HX := Lib.hid hx
        have HAD := Lib.hid hA
        rw [hA]
        have HCL := Lib.hid (readOp_any x wr (HE.out.below (HB.out.trans (hb.mono HB.out.size))) hxl)
        have hik : (0 : Int) ≤ (k : Int) ∧ (k : Int) < (n : Int) := ⟨by omega, by omega⟩
        obtain ⟨g, hg⟩ : ∃ g, g = (opR x).2 := ⟨_, rfl⟩
        obtain ⟨o, ho⟩ : ∃ o, o = (opR x).1 := ⟨_, rfl⟩
        unfold ReadOpRes at HCL
        rw [← hg, ← ho] at HCL
        have HG := Lib.hid hg
        have HOX := Lib.hid ho
        clear hA hx hxl hb hown hg ho
        go_wp2_with fail
        refine HCL.out.mono ?_
        rintro e w2 ⟨lv, rfl, ⟨LA, lc, hlv, hlr⟩, hb2⟩
        obtain ⟨m, hm⟩ : ∃ m, m = o.list.length := ⟨_, rfl⟩
        rw [← hm] at hlv
        subst hlv
        have HLV : Hid (IntsV w2 (Fr wr.heap.size w2.heap.size) (.slice LA m lc) o.list) := Lib.hid ⟨LA, lc, by rw [hm], hlr⟩
        have HB2 := Lib.hid (HBR.out.trans (hb2.mono HBR.out.size))
        have HB2R := Lib.hid hb2
        clear hm hlr HCL a0 hb2
        cases g with
        | false =>
          have hbz : Below w2.heap.size w2 (w2.alloc (.cells #[iv o.kind, iv o.a, iv o.b, iv o.c, .slice LA m lc, sv o.sym] 60)) := (Below.refl _ _).alloc (Nat.le_refl _) _
          have HRES : Hid (ListOpRes (pack L) w (.returned (.tuple #[.slice none 0 0, .bool false])) (w2.alloc (.cells #[iv o.kind, iv o.a, iv o.b, iv o.c, .slice LA m lc, sv o.sym] 60))) := Lib.hid (by
            have e1 := rdList_no (f := opR) (List.mem_of_getElem? HX.out) HG.out.symm
            refine ⟨.slice none 0 0, by rw [e1], by rw [e1]; exact OpsV.nil _ _, (HB.out.trans (HB2.out.mono HB.out.size)).trans (hbz.mono (Nat.le_trans HB.out.size HB2.out.size))⟩)
          clear hbz
          go_wp2
          go_ret2
          exact HRES.out
        | true =>
          have hOw := HO.out.below HB2R.out
          obtain ⟨OA, oc, rfl, _⟩ := own_slice hOw.own
          have hsz2 := HB2.out.size
          obtain ⟨wb, hwb⟩ : ∃ wb, wb = ((w2.alloc (.cells #[.int .i64 o.kind, .int .i64 o.a, .int .i64 o.b, .int .i64 o.c, .slice LA m lc, .string (bs o.sym)] 60)).alloc (.cells #[.int .i64 o.kind, .int .i64 o.a, .int .i64 o.b, .int .i64 o.c, .slice LA m lc, .string (bs o.sym)] 60)) := ⟨_, rfl⟩
          have hb3 : Below w2.heap.size w2 wb := by rw [hwb]; exact ((Below.refl _ _).alloc (Nat.le_refl _) _).alloc (by simp) _
          have hnews : ∀ (j : Nat) (y : Value), (ovC ⟨o, .slice LA m lc⟩)[j]? = some y → wb.cell? ((⟨w2.heap.size + 1, 0, none⟩ : Addr).add j) = some y := by
            rw [hwb]
            exact World.news_of_block (cs := #[.int .i64 o.kind, .int .i64 o.a, .int .i64 o.b, .int .i64 o.c, .slice LA m lc, .string (bs o.sym)]) ((alloc2 w2 _ _).2)
          have hOw3 := hOw.below hb3
          have hb3s := hb3.size
          clear hOw
          subst hwb
          have hsza : ((w2.alloc (.cells #[.int .i64 o.kind, .int .i64 o.a, .int .i64 o.b, .int .i64 o.c, .slice LA m lc, .string (bs o.sym)] 60)).alloc (.cells #[.int .i64 o.kind, .int .i64 o.a, .int .i64 o.b, .int .i64 o.c, .slice LA m lc, .string (bs o.sym)] 60)).heap.size = w2.heap.size + 2 := by simp
          have HNEW := Lib.hid hnews
          clear hnews
          go_wp2_with (at_builtin; go_loud (refine wpList_append_lies _ rfl (.tmp 34) (.tmp 36) 35 rfl w1.heap.size 60 i0 (.agg #[.int .i64 0, .int .i64 0, .int .i64 0, .int .i64 0, .slice none 0 0, .string ⟨#[]⟩]) 6 72 Tryd.underlying35 hi hz0 hz1 hz2 rfl (by decide) (.slice OA vs.length oc) vs.length _ rfl hOw3.own ⟨w2.heap.size + 1, 0, none⟩ 1 1 (ovC ⟨o, .slice LA m lc⟩) rfl rfl HNEW.out ?c2 (by decide) ?c3 ?c4 ?c5 (w2.heap.size + 2) hsza ?_))
          case c2 =>
            intro u hu
            simp [ovC] at hu
            rcases hu with rfl | rfl | rfl | rfl | rfl | rfl <;> rfl
          case c3 => have := HVL.out; unfold maxLen; omega
          case c4 => have := HVL.out; omega
          case c5 => exact Nat.le_trans hsz2 hb3s
          rintro g3 cap3 w3 hown3 hgrow hat hlt3
          have hOp3 := hOw3.put (u := ⟨o, .slice LA m lc⟩) ((HLV.out.keep fun p hp => hb3.cell hp.2).more fun b hb => ⟨Nat.le_trans HBR.out.size hb.1, Nat.lt_of_lt_of_le hb.2 hb3s, fun e => by
            have := HO.out.own.lt b e.symm
            have := hb.1
            omega⟩) hown3 hgrow (hat.elim (fun e => .inl e.symm) fun e => .inr (by rw [e, hsza]; rfl))
          have hb4 : Below w1.heap.size w1 w3 := (HB2.out.trans (hb3.mono hsz2)).grown hgrow (by omega) (fun g hg => (hOw3.own.lt g hg).1)
          have HB4 := Lib.hid hb4
          have HO3 := Lib.hid hOp3
          clear hgrow hown3 hb4 hOp3 hOw3 hb3 hat HNEW hsza
          go_wp2
          try rw [← HAD.out]
          go_roundw
          case rel =>
            refine ⟨k + 1, vs ++ [⟨o, .slice LA m lc⟩], by omega, by go_num, by simp [HVL.out], ?_, HO3.out, fun y hy => ?_, HB4.out⟩
            · rw [List.map_append, HVM.out, List.take_add_one, HX.out, List.map_append]
              simp [HOX.out]
            · rw [List.take_add_one, HX.out, List.mem_append] at hy
              rcases hy with hy | hy
              · exact HAL.out y hy
              · obtain rfl : y = x := by simpa using hy
                exact HG.out.symm
          case measure => simp [intOf]; omega
      · obtain rfl : k = n := by omega
        obtain ⟨OA, oc, rfl, _⟩ := own_slice hown.own
        have HRES : Hid (ListOpRes (pack L) w (.returned (.tuple #[.slice OA vs.length oc, .bool true])) wr) := Lib.hid (by
          have h1 := HAL.out
          rw [HN.out] at h1
          have e1 := rdList_take (f := opR) h1
          refine ⟨_, by rw [e1], ?_, HB.out.trans (hb.mono HB.out.size)⟩
          rw [e1]
          refine ⟨OA, oc, vs, rfl, by rw [HVM.out, HN.out, List.take_length], Row.ofOwn hown.own fun g _ h3 h4 => ⟨Nat.le_trans HB.out.size h3, h4⟩, fun u hu => (hown.each u hu).more fun b hb' => ⟨Nat.le_trans HB.out.size hb'.1, hb'.2.1⟩⟩)
        clear hown hb
        go_wp2
        go_ret2
        exact HRES.out
  · have HRES : Hid (ListOpRes s w (.returned (.tuple #[.slice none 0 0, .bool false])) w1) := Lib.hid (by
      have e1 := rdList_bad (f := opR) hno
      refine ⟨.slice none 0 0, by rw [e1], by rw [e1]; exact OpsV.nil _ _, hb⟩)
    clear hno hb
    go_wp2
    go_ret2
    exact HRES.out
end

section
open Go.RowKit
theorem OpsV.nw {w0 w w' : World} {fb : Nat} {v : Value} {l : List OpF} (h : OpsV w (Nw w0 fb w) v l) (hk : Kp (fun y => y = fb) w w') : OpsV w' (Nw w0 fb w') v l :=
  (h.keep (hk.kept fun b hb => ⟨hb.2.1, hb.2.2⟩)).more fun b hb => ⟨hb.1, Nat.lt_of_lt_of_le hb.2.1 hk.size, hb.2.2⟩
set_option maxHeartbeats 1600000 in
set_option maxRecDepth 100000 in
theorem listOpIn_any (x : List UInt8) (pb : Nat) (w : World) (he : Env w) (hs : x.length ≤ 1000000000) (hp : w.cell? ⟨pb, 0, none⟩ = some (fnV 43)) :
    Calls Tryd.prog 61 #[sv x, .pointer (some ⟨pb, 0, none⟩)] w (ListOpRes x w) := by
  have HU := Lib.hid (listOp_any x w he hs)
  clear he
  go_enter Tryd.func61, Tryd.ntmps61
  go_wp2_with fail
  refine HU.out.mono ?_
  rintro e w1 ⟨lv, rfl, h2, h3⟩
  have HRES : Hid (ListOpRes x w (.returned (.tuple #[lv, .bool (rdList opR x).2])) w1) := Lib.hid ⟨lv, rfl, h2, h3⟩
  clear h2 h3 hp
  go_wp2
  go_ret2
  exact HRES.out
set_option maxHeartbeats 1600000 in
set_option maxRecDepth 100000 in
theorem nextOps_any (w0 : World) (fb pb : Nat) (x : List UInt8) (L : List (List UInt8)) (ok : Bool) (w : World) (he : Env w0) (hb : Below w0.heap.size w0 w) (h : FAt w0.heap.size fb w (x :: L) ok) (hx : x.length ≤ 1000000000) (hp : w.cell? ⟨pb, 0, none⟩ = some (fnV 43)) (hne : pb ≠ fb) :
    Calls Tryd.prog 60 #[.pointer (some ⟨fb, 0, none⟩), .func (.func 61) #[] #[.pointer (some ⟨pb, 0, none⟩)]] w (NextRes w0 fb L (ok && (rdList opR x).2) (fun w' v => OpsV w' (Nw w0 fb w') v (rdList opR x).1) w) := by
  have HT := Lib.hid (text_any w0.heap.size fb x L ok w h)
  have HL := Lib.hid h.low
  have HLT := Lib.hid h.lt
  have HC := Lib.hid fun (u : World) (hu : Env u) (hp : u.cell? ⟨pb, 0, none⟩ = some (fnV 43)) => listOpIn_any x pb u hu hx hp
  obtain ⟨g, hg⟩ : ∃ g, g = (rdList opR x).2 := ⟨_, rfl⟩
  have HP := Lib.hid hp
  unfold ListOpRes at HC
  rw [← hg] at HC
  rw [← hg]
  clear hg hx h hp
  have HE := Lib.hid he
  have HB := Lib.hid hb
  clear he hb
  go_enter Tryd.func60, Tryd.ntmps60
  go_wp2_with fail
  refine HT.out.mono ?_
  rintro e w1 ⟨rfl, hF1, hk1⟩
  have HB1 := Lib.hid (kpBelow HB.out hk1 fun y e => by rw [e]; exact HL.out)
  have HF1 := Lib.hid hF1
  have HK1 := Lib.hid hk1
  have HP1 : Hid (w1.cell? ⟨pb, 0, none⟩ = some (fnV 43)) := Lib.hid ((hk1.kept (S := fun y => y = pb) (fun b hb => by subst hb; exact ⟨block_lt_of_cell HP.out, hne⟩) ⟨pb, 0, none⟩ rfl).trans HP.out)
  clear hF1 hk1 HT HB
  go_wp2_with fail
  refine (HC.out w1 (HE.out.below HB1.out) HP1.out).mono ?_
  rintro e w2 ⟨lv, rfl, hints, hb2⟩
  have hF2 := HF1.out.kp hb2
  obtain ⟨c1, f1⟩ := hF2.okCell
  have HB2 := Lib.hid (HB1.out.trans (hb2.mono HB1.out.size))
  have HK2 : Hid (Kp (fun y => y = fb) w w2) := Lib.hid (HK1.out.below hb2)
  have HF2 := Lib.hid hF2
  have HI : Hid (OpsV w2 (Nw w0 fb w2) lv (rdList opR x).1) := Lib.hid (hints.more fun b hb => ⟨Nat.le_trans HB1.out.size hb.1, hb.2, by have := HF1.out.lt; have := hb.1; omega⟩)
  clear hF2 hb2 HC HF1 HK1 hints
  have HRES : ∀ b, b = (ok && g) → Hid (NextRes w0 fb L (ok && g) (fun w' v => OpsV w' (Nw w0 fb w') v (rdList opR x).1) w (.returned lv) (w2.setCell ⟨fb, 1, none⟩ (.bool b))) := fun b hbb => Lib.hid ⟨_, rfl, HI.out.nw (setKp _ _ _ _), by rw [← hbb]; exact fat_ok HF2.out b, HK2.out.setCell (fun _ => rfl) _, HB2.out.setCell (p := ⟨fb, 1, none⟩) HL.out _⟩
  cases ok with
  | false =>
    have HR := HRES false rfl
    clear HRES
    go_wp2
    go_ret
    exact HR.out
  | true =>
    have HR := HRES g (by simp)
    clear HRES
    go_wp2
    go_ret
    exact HR.out
set_option maxHeartbeats 1600000 in
set_option maxRecDepth 100000 in
theorem allOp_any (w0 : World) (fb : Nat) (x : List UInt8) (L : List (List UInt8)) (ok : Bool) (w : World) (he : Env w0) (hb : Below w0.heap.size w0 w) (h : FAt w0.heap.size fb w (x :: L) ok) (hx : x.length ≤ 1000000000) :
    Calls Tryd.prog 42 #[.pointer (some ⟨fb, 0, none⟩), fnV 43] w (NextRes w0 fb L (ok && (rdList opR x).2) (fun w' v => OpsV w' (Nw w0 fb w') v (rdList opR x).1) w) := by
  have hb1 : Below w.heap.size w (w.alloc (.cells #[fnV 43] 82)) := (Below.refl _ _).alloc (Nat.le_refl _) _
  have hlt := h.lt
  have HC := Lib.hid (nextOps_any w0 fb w.heap.size x L ok (w.alloc (.cells #[fnV 43] 82)) he (hb.trans (hb1.mono hb.size)) (h.kp hb1) hx ((Lib.cell_of_heap (alloc1 w _) _).trans rfl) (by omega))
  have HB1 := Lib.hid hb1
  clear he hb h hb1
  go_enter Tryd.func42, Tryd.ntmps42
  go_wp2_with fail
  refine HC.out.mono ?_
  rintro e w1 ⟨v, rfl, h1, h2, h3, h4⟩
  have HRES : Hid (NextRes w0 fb L (ok && (rdList opR x).2) (fun w' v => OpsV w' (Nw w0 fb w') v (rdList opR x).1) w (.returned v) w1) := Lib.hid ⟨v, rfl, h1, h2, (Kp.ofBelow HB1.out).trans h3 (fun _ _ e => e), h4⟩
  clear h1 h2 h3 h4
  go_wp2
  go_ret
  exact HRES.out
abbrev cdZ : Value := .agg #[iv 0, iv 0, .slice none 0 0]
set_option maxHeartbeats 1600000 in
set_option maxRecDepth 100000 in
theorem doneCode_any (B fb : Nat) (L : List (List UInt8)) (ok : Bool) (p r : Int) (A : Option Addr) (n c : Nat) (w : World) (h : FAt B fb w L ok) :
    Calls Tryd.prog 39 #[.pointer (some ⟨fb, 0, none⟩), .agg #[iv p, iv r, .slice A n c]] w fun e w' => e = .returned (.tuple #[if ok = true then .agg #[iv p, iv r, .slice A n c] else cdZ, .bool ok]) ∧ Below w.heap.size w w' := by
  have c1 := h.okCell.1
  have hlt := h.lt
  clear h
  cases ok with
  | false =>
    go_enter Tryd.func39, Tryd.ntmps39
    go_wp2
    refine bodyPost_ret (v := .tuple #[cdZ, .bool false]) (by simp [results, Tryd.results39, go_sem]) rfl ⟨rfl, ?_⟩
    exact (((Below.refl _ _).alloc (Nat.le_refl _) _).alloc (by simp) _).alloc (by simp; omega) _
  | true =>
    go_enter Tryd.func39, Tryd.ntmps39
    go_wp2
    all_goals
      refine bodyPost_ret (v := .tuple #[.agg #[iv p, iv r, .slice A n c], .bool true]) (by simp [results, Tryd.results39, go_sem]) rfl ⟨rfl, ?_⟩
      exact ((Below.refl _ _).alloc (Nat.le_refl _) _).alloc (by simp) _
/-- A code is read out of three fields. -/
theorem cdR_opn {s x0 x1 x2 : List UInt8} {ok : Bool} (h : opn s 3 = ([x0, x1, x2], ok)) :
    cdR s = if (ok && (numv x0).2 && (numv x1).2 && (rdList opR x2).2) = true then (⟨(numv x0).1, (numv x1).1, (rdList opR x2).1⟩, true) else (CdF.zero, false) := by
  unfold opn at h
  unfold cdR
  by_cases hc : (unpk s).2 = true ∧ (unpk s).1.length = 3
  · rw [if_pos hc] at h
    have e1 := (Prod.mk.inj h).1
    have e2 := (Prod.mk.inj h).2
    rw [show unpk s = ([x0, x1, x2], true) from Prod.ext e1 hc.1]
    simp only [← e2, Bool.true_and, Bool.and_eq_true, and_assoc]
  · rw [if_neg hc] at h
    have e2 := (Prod.mk.inj h).2
    rw [← e2]
    simp only [Bool.false_and, Bool.false_eq_true, if_false]
    split
    · rename_i e
      rw [e] at hc
      exact absurd ⟨rfl, rfl⟩ hc
    · rfl
theorem three {α : Type} {L : List α} (h : L.length = 3) : ∃ x0 x1 x2, L = [x0, x1, x2] := by
  match L, h with
  | [x0, x1, x2], _ => exact ⟨x0, x1, x2, rfl⟩
/-- How a code is read. -/
def ReadCodeRes (s : List UInt8) (w : World) (e : Ending) (w' : World) : Prop :=
  ∃ lv, e = .returned (.tuple #[cdV (cdR s).1 lv, .bool (cdR s).2]) ∧ OpsV w' (Fr w.heap.size w'.heap.size) lv (cdR s).1.ops ∧ Below w.heap.size w w'
theorem keep3 (w : World) (b : Nat) (v0 v1 v2 : Value) : Kp (fun y => y = b) w (((w.setCell ⟨b, 0, none⟩ v0).setCell ⟨b, 1, none⟩ v1).setCell ⟨b, 2, none⟩ v2) :=
  Kp.setCell (M := fun y => y = b) (Kp.setCell (M := fun y => y = b) (Kp.setCell (M := fun y => y = b) (Kp.refl _ _) (fun _ => rfl) v0) (fun _ => rfl) v1) (fun _ => rfl) v2
set_option maxHeartbeats 1600000 in
set_option maxRecDepth 100000 in
theorem readCode_any (s : List UInt8) (w : World) (he : Env w) (hs : s.length ≤ 1000000000) :
    Calls Tryd.prog 16 #[sv s] w (ReadCodeRes s w) := by
  obtain ⟨wa, hwa⟩ : ∃ wa, wa = w.alloc (.cells #[.int .i64 0, .int .i64 0, .slice none 0 0] 37) := ⟨_, rfl⟩
  have hba : Below w.heap.size w wa := by rw [hwa]; exact (Below.refl _ _).alloc (Nat.le_refl _) _
  have HA : Hid (wa.heap[w.heap.size]? = some (.cells #[.int .i64 0, .int .i64 0, .slice none 0 0] 37 (0, 0))) := Lib.hid (by rw [hwa]; exact alloc1 _ _)
  have HZA : Hid (wa.heap.size = w.heap.size + 1) := Lib.hid (by rw [hwa]; simp)
  have hea := he.below hba
  have HOP := Lib.hid (open_any s 3 wa hea hs (by decide))
  have HE := Lib.hid hea
  have HBA := Lib.hid hba
  obtain ⟨x0, x1, x2, hL⟩ := three (opn_len s 3)
  obtain ⟨ok, hok⟩ : ∃ ok, ok = (opn s 3).2 := ⟨_, rfl⟩
  have hle : ∀ x ∈ [x0, x1, x2], x.length ≤ 1000000000 := fun x hx => Nat.le_trans (opn_le (by rw [hL]; exact hx)) hs
  have HX0 := Lib.hid (hle x0 (by simp))
  have HX1 := Lib.hid (hle x1 (by simp))
  have HX2 := Lib.hid (hle x2 (by simp))
  have HOR := Lib.hid (cdR_opn (s := s) (Prod.ext hL hok.symm))
  have HOP2 : Hid (Calls Tryd.prog 38 #[sv s, .int .i64 3] wa fun e w' => ∃ fb, e = .returned (.pointer (some ⟨fb, 0, none⟩)) ∧ fb < w'.heap.size ∧ FAt wa.heap.size fb w' [x0, x1, x2] ok ∧ Below wa.heap.size wa w') := Lib.hid (by
    have h := HOP.out
    unfold OpenRes at h
    rw [hL, ← hok] at h
    exact h)
  clear HOP hba hea he hle hok hL
  go_enter Tryd.func16, Tryd.ntmps16
  go_wp2_with fail
  rw [← hwa]
  refine HOP2.out.mono ?_
  rintro e w1 ⟨fb, rfl, hfl, hF, hb⟩
  have HB1 := Lib.hid hb
  have HF1 := Lib.hid hF
  clear hF hb HOP2 hfl hwa
  go_wp2_with fail
  refine (nextInt_any wa fb x0 _ _ w1 HE.out HB1.out HF1.out HX0.out).mono ?_
  rintro e w2 ⟨v, rfl, rfl, hF, hk, hb⟩
  have HB2 := Lib.hid hb
  have HF2 := Lib.hid hF
  clear hF hk hb HB1 HF1
  go_wp2_with fail
  refine (nextInt_any wa fb x1 _ _ w2 HE.out HB2.out HF2.out HX1.out).mono ?_
  rintro e w3 ⟨v, rfl, rfl, hF, hk, hb⟩
  have HB3 := Lib.hid hb
  have HF3 := Lib.hid hF
  clear hF hk hb HB2 HF2
  go_wp2_with fail
  refine (allOp_any wa fb x2 _ _ w3 HE.out HB3.out HF3.out HX2.out).mono ?_
  rintro e w7 ⟨lv, rfl, hI, hF, hk, hb⟩
  have HB7 := Lib.hid hb
  have HF7 := Lib.hid hF
  have HI7 := Lib.hid hI
  clear hF hk hb hI HB3 HF3
  obtain ⟨LA, lc, vs, rfl, hvs, hops⟩ := HI7.out
  obtain ⟨m, hm⟩ : ∃ m, m = vs.length := ⟨_, rfl⟩
  rw [← hm]
  have HM := Lib.hid hm
  have HVS := Lib.hid hvs
  have HOPS := Lib.hid hops
  clear hm hvs hops HI7
  go_wp2_with fail
  refine (doneCode_any wa.heap.size fb [] _ (numv x0).1 (numv x1).1 LA m lc w7 HF7.out).mono ?_
  rintro e w8 ⟨rfl, hb8⟩
  have HB8 := Lib.hid (HB7.out.trans (hb8.mono HB7.out.size))
  have HOPS8 := Lib.hid (HOPS.out.keep (fun p hp => hb8.cell hp.2.1))
  have hsz8 := hb8.size
  obtain ⟨fin, hfin⟩ : ∃ fin, fin = (ok && (numv x0).2 && (numv x1).2 && (rdList opR x2).2) := ⟨_, rfl⟩
  have HOR2 := HOR.out
  rw [← hfin] at HOR2 ⊢
  have hh8 := (HB8.out.block w.heap.size (by rw [HZA.out]; omega)).trans HA.out
  clear hfin HOR
  have z0 : w8.cell? ⟨w.heap.size, 0, none⟩ = some (.int .i64 0) := (Lib.cell_of_heap hh8 _).trans rfl
  have f0 : w8.frozen? ⟨w.heap.size, 0, none⟩ = false := Lib.frozen_of_heap hh8 0
  have z1 : w8.cell? ⟨w.heap.size, 1, none⟩ = some (.int .i64 0) := (Lib.cell_of_heap hh8 _).trans rfl
  have f1 : w8.frozen? ⟨w.heap.size, 1, none⟩ = false := Lib.frozen_of_heap hh8 1
  have z2 : w8.cell? ⟨w.heap.size, 2, none⟩ = some (.slice none 0 0) := (Lib.cell_of_heap hh8 _).trans rfl
  have f2 : w8.frozen? ⟨w.heap.size, 2, none⟩ = false := Lib.frozen_of_heap hh8 2
  have HH8 := Lib.hid hh8
  clear hh8
  cases fin with
  | false =>
    simp only [Bool.false_eq_true, if_false] at HOR2 ⊢
    go_wp2
    refine bodyPost_ret (v := .tuple #[cdZ, .bool false]) (by simp [results, Tryd.results16, go_sem, z0, z1, z2]; try rfl) rfl ?_
    have hk := keep3 w8 w.heap.size (.int .i64 0) (.int .i64 0) (.slice none 0 0)
    have hbf := kpBelow (HBA.out.trans (HB8.out.mono HBA.out.size)) hk (fun y e => by rw [e]; exact Nat.le_refl _)
    · unfold ReadCodeRes
      rw [HOR2]
      exact ⟨.slice none 0 0, rfl, OpsV.nil _ _, hbf⟩
  | true =>
    simp only [if_true] at HOR2 ⊢
    go_wp2
    refine bodyPost_ret (v := .tuple #[(.agg #[iv (numv x0).1, iv (numv x1).1, .slice LA m lc]), .bool true]) (by simp [results, Tryd.results16, go_sem, z0, z1, z2]; try rfl) rfl ?_
    have hk := keep3 w8 w.heap.size (iv (numv x0).1) (iv (numv x1).1) (.slice LA m lc)
    have hbf := kpBelow (HBA.out.trans (HB8.out.mono HBA.out.size)) hk (fun y e => by rw [e]; exact Nat.le_refl _)
    · unfold ReadCodeRes
      rw [HOR2]
      refine ⟨.slice LA m lc, rfl, ⟨LA, lc, vs, by rw [HM.out], HVS.out, (HOPS8.out.keep (hk.kept fun b hb => ⟨Nat.lt_of_lt_of_le hb.2.1 hsz8, by have := HZA.out; have := hb.1; omega⟩)).more fun b hb => ⟨by have := HZA.out; have := hb.1; omega, Nat.lt_of_lt_of_le hb.2.1 (Nat.le_trans hsz8 hk.size)⟩⟩, hbf⟩
end
end Go.Proofs.YtkggmckfdkpldaaDoor
