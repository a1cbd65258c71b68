/-
  The walks of fact.done over operations and of readOp.
  Conditions: 'Env'; texts of at most 10^9 bytes.
-/
import Derived.Test.YtkggmckfdkpldaaDoorFcG
namespace Go.Proofs.YtkggmckfdkpldaaDoor
open Go.RowKit

abbrev opZ : Value := .agg #[iv 0, iv 0, iv 0, iv 0, .slice none 0 0, sv []]
set_option maxHeartbeats 1600000 in
set_option maxRecDepth 100000 in
theorem doneOp_any (B fb : Nat) (L : List (List UInt8)) (ok : Bool) (o : OpF) (A : Option Addr) (n c : Nat) (w : World) (h : FAt B fb w L ok) :
    Calls Tryd.prog 63 #[.pointer (some ⟨fb, 0, none⟩), opV o (.slice A n c)] w fun e w' => e = .returned (.tuple #[if ok = true then opV o (.slice A n c) else opZ, .bool ok]) ∧ Below w.heap.size w w' := by
  obtain ⟨ok', oa, ob, oc, ol, os⟩ := o
  have c1 := h.okCell.1
  have hlt := h.lt
  clear h
  cases ok with
  | false =>
    go_enter Tryd.func63, Tryd.ntmps63
    go_wp2
    refine bodyPost_ret (v := .tuple #[opZ, .bool false]) (by simp [results, Tryd.results63, go_sem]; rfl) rfl ⟨rfl, ?_⟩
    exact (((Below.refl _ _).alloc (Nat.le_refl _) _).alloc (by simp) _).alloc (by simp; omega) _
  | true =>
    go_enter Tryd.func63, Tryd.ntmps63
    go_wp2
    all_goals
      refine bodyPost_ret (v := .tuple #[opV ⟨ok', oa, ob, oc, ol, os⟩ (.slice A n c), .bool true]) (by simp [results, Tryd.results63, go_sem]) rfl ⟨rfl, ?_⟩
      exact ((Below.refl _ _).alloc (Nat.le_refl _) _).alloc (by simp) _
/-- An operation is read out of six fields. -/
theorem opR_opn {s x0 x1 x2 x3 x4 x5 : List UInt8} {ok : Bool} (h : opn s 6 = ([x0, x1, x2, x3, x4, x5], ok)) :
    opR s = if (ok && (numv x0).2 && (numv x1).2 && (numv x2).2 && (numv x3).2 && (rdList numv x4).2) = true then (⟨(numv x0).1, (numv x1).1, (numv x2).1, (numv x3).1, (rdList numv x4).1, x5⟩, true) else (OpF.zero, false) := by
  unfold opn at h
  unfold opR
  by_cases hc : (unpk s).2 = true ∧ (unpk s).1.length = 6
  · rw [if_pos hc] at h
    have e1 := (Prod.mk.inj h).1
    have e2 := (Prod.mk.inj h).2
    rw [show unpk s = ([x0, x1, x2, x3, x4, x5], true) from Prod.ext e1 hc.1]
    simp only [← e2, Bool.true_and, Bool.and_eq_true, and_assoc]
  · rw [if_neg hc] at h
    have e2 := (Prod.mk.inj h).2
    rw [← e2]
    simp only [Bool.false_and, Bool.false_eq_true, if_false]
    split
    · rename_i e
      rw [e] at hc
      exact absurd ⟨rfl, rfl⟩ hc
    · rfl
theorem six {α : Type} {L : List α} (h : L.length = 6) : ∃ x0 x1 x2 x3 x4 x5, L = [x0, x1, x2, x3, x4, x5] := by
  match L, h with
  | [x0, x1, x2, x3, x4, x5], _ => exact ⟨x0, x1, x2, x3, x4, x5, rfl⟩
/-- How an operation is read. -/
def ReadOpRes (s : List UInt8) (w : World) (e : Ending) (w' : World) : Prop :=
  ∃ lv, e = .returned (.tuple #[opV (opR s).1 lv, .bool (opR s).2]) ∧ IntsV w' (Fr w.heap.size w'.heap.size) lv (opR s).1.list ∧ Below w.heap.size w w'
theorem keep6 (w : World) (b : Nat) (v0 v1 v2 v3 v4 v5 : Value) : Kp (fun y => y = b) w ((((((w.setCell ⟨b, 0, none⟩ v0).setCell ⟨b, 1, none⟩ v1).setCell ⟨b, 2, none⟩ v2).setCell ⟨b, 3, none⟩ v3).setCell ⟨b, 4, none⟩ v4).setCell ⟨b, 5, none⟩ v5) :=
  Kp.setCell (M := fun y => y = b) (Kp.setCell (M := fun y => y = b) (Kp.setCell (M := fun y => y = b) (Kp.setCell (M := fun y => y = b) (Kp.setCell (M := fun y => y = b) (Kp.setCell (M := fun y => y = b) (Kp.refl _ _) (fun _ => rfl) v0) (fun _ => rfl) v1) (fun _ => rfl) v2) (fun _ => rfl) v3) (fun _ => rfl) v4) (fun _ => rfl) v5
set_option maxHeartbeats 1600000 in
set_option maxRecDepth 100000 in
theorem readOp_any (s : List UInt8) (w : World) (he : Env w) (hs : s.length ≤ 1000000000) :
    Calls Tryd.prog 43 #[sv s] w (ReadOpRes s w) := by
  obtain ⟨wa, hwa⟩ : ∃ wa, wa = w.alloc (.cells #[.int .i64 0, .int .i64 0, .int .i64 0, .int .i64 0, .slice none 0 0, .string ⟨#[]⟩] 60) := ⟨_, rfl⟩
  have hba : Below w.heap.size w wa := by rw [hwa]; exact (Below.refl _ _).alloc (Nat.le_refl _) _
  have HA : Hid (wa.heap[w.heap.size]? = some (.cells #[.int .i64 0, .int .i64 0, .int .i64 0, .int .i64 0, .slice none 0 0, .string ⟨#[]⟩] 60 (0, 0))) := Lib.hid (by rw [hwa]; exact alloc1 _ _)
  have HZA : Hid (wa.heap.size = w.heap.size + 1) := Lib.hid (by rw [hwa]; simp)
  have hea := he.below hba
  have HOP := Lib.hid (open_any s 6 wa hea hs (by decide))
  have HE := Lib.hid hea
  have HBA := Lib.hid hba
  obtain ⟨x0, x1, x2, x3, x4, x5, hL⟩ := six (opn_len s 6)
  obtain ⟨ok, hok⟩ : ∃ ok, ok = (opn s 6).2 := ⟨_, rfl⟩
  have hle : ∀ x ∈ [x0, x1, x2, x3, x4, x5], x.length ≤ 1000000000 := fun x hx => Nat.le_trans (opn_le (by rw [hL]; exact hx)) hs
  have HX0 := Lib.hid (hle x0 (by simp))
  have HX1 := Lib.hid (hle x1 (by simp))
  have HX2 := Lib.hid (hle x2 (by simp))
  have HX3 := Lib.hid (hle x3 (by simp))
  have HX4 := Lib.hid (hle x4 (by simp))
  have HOR := Lib.hid (opR_opn (s := s) (Prod.ext hL hok.symm))
  have HOP2 : Hid (Calls Tryd.prog 38 #[sv s, .int .i64 6] wa fun e w' => ∃ fb, e = .returned (.pointer (some ⟨fb, 0, none⟩)) ∧ fb < w'.heap.size ∧ FAt wa.heap.size fb w' [x0, x1, x2, x3, x4, x5] ok ∧ Below wa.heap.size wa w') := Lib.hid (by
    have h := HOP.out
    unfold OpenRes at h
    rw [hL, ← hok] at h
    exact h)
  clear HOP hba hea he hle hok hL
  go_enter Tryd.func43, Tryd.ntmps43
  go_wp2_with fail
  rw [← hwa]
  refine HOP2.out.mono ?_
  rintro e w1 ⟨fb, rfl, hfl, hF, hb⟩
  have HB1 := Lib.hid hb
  have HF1 := Lib.hid hF
  clear hF hb HOP2 hfl hwa
  go_wp2_with fail
  refine (nextInt_any wa fb x0 _ _ w1 HE.out HB1.out HF1.out HX0.out).mono ?_
  rintro e w2 ⟨v, rfl, rfl, hF, hk, hb⟩
  have HB2 := Lib.hid hb
  have HF2 := Lib.hid hF
  clear hF hk hb HB1 HF1
  go_wp2_with fail
  refine (nextInt_any wa fb x1 _ _ w2 HE.out HB2.out HF2.out HX1.out).mono ?_
  rintro e w3 ⟨v, rfl, rfl, hF, hk, hb⟩
  have HB3 := Lib.hid hb
  have HF3 := Lib.hid hF
  clear hF hk hb HB2 HF2
  go_wp2_with fail
  refine (nextInt_any wa fb x2 _ _ w3 HE.out HB3.out HF3.out HX2.out).mono ?_
  rintro e w4 ⟨v, rfl, rfl, hF, hk, hb⟩
  have HB4 := Lib.hid hb
  have HF4 := Lib.hid hF
  clear hF hk hb HB3 HF3
  go_wp2_with fail
  refine (nextInt_any wa fb x3 _ _ w4 HE.out HB4.out HF4.out HX3.out).mono ?_
  rintro e w5 ⟨v, rfl, rfl, hF, hk, hb⟩
  have HB5 := Lib.hid hb
  have HF5 := Lib.hid hF
  clear hF hk hb HB4 HF4
  go_wp2_with fail
  refine (allInt_any wa fb x4 _ _ w5 HE.out HB5.out HF5.out HX4.out).mono ?_
  rintro e w6 ⟨lv, rfl, hI, hF, hk, hb⟩
  have HB6 := Lib.hid hb
  have HF6 := Lib.hid hF
  have HI6 := Lib.hid hI
  clear hF hk hb hI HB5 HF5
  go_wp2_with fail
  refine (text_any wa.heap.size fb x5 _ _ w6 HF6.out).mono ?_
  rintro e w7 ⟨rfl, hF, hk⟩
  have HB7 := Lib.hid (kpBelow HB6.out hk fun y e => by rw [e]; exact HF6.out.low)
  have HI7 := Lib.hid (HI6.out.nw hk)
  have HF7 := Lib.hid hF
  clear hF hk HF6 HB6 HI6
  obtain ⟨LA, lc, rfl, hrow⟩ := HI7.out
  obtain ⟨m, hm⟩ : ∃ m, m = (rdList numv x4).1.length := ⟨_, rfl⟩
  rw [← hm]
  have HM := Lib.hid hm
  have HROW := Lib.hid hrow
  clear hm hrow HI7
  go_wp2_with fail
  refine (doneOp_any wa.heap.size fb [] _ ⟨(numv x0).1, (numv x1).1, (numv x2).1, (numv x3).1, (rdList numv x4).1, x5⟩ LA m lc w7 HF7.out).mono ?_
  rintro e w8 ⟨rfl, hb8⟩
  have HB8 := Lib.hid (HB7.out.trans (hb8.mono HB7.out.size))
  have HROW8 := Lib.hid (HROW.out.keep (fun p hp => hb8.cell hp.2.1))
  have hsz8 := hb8.size
  obtain ⟨fin, hfin⟩ : ∃ fin, fin = (ok && (numv x0).2 && (numv x1).2 && (numv x2).2 && (numv x3).2 && (rdList numv x4).2) := ⟨_, rfl⟩
  have HOR2 := HOR.out
  rw [← hfin] at HOR2 ⊢
  have hh8 := (HB8.out.block w.heap.size (by rw [HZA.out]; omega)).trans HA.out
  clear hfin HOR
  have z0 : w8.cell? ⟨w.heap.size, 0, none⟩ = some (.int .i64 0) := (Lib.cell_of_heap hh8 _).trans rfl
  have f0 : w8.frozen? ⟨w.heap.size, 0, none⟩ = false := Lib.frozen_of_heap hh8 0
  have z1 : w8.cell? ⟨w.heap.size, 1, none⟩ = some (.int .i64 0) := (Lib.cell_of_heap hh8 _).trans rfl
  have f1 : w8.frozen? ⟨w.heap.size, 1, none⟩ = false := Lib.frozen_of_heap hh8 1
  have z2 : w8.cell? ⟨w.heap.size, 2, none⟩ = some (.int .i64 0) := (Lib.cell_of_heap hh8 _).trans rfl
  have f2 : w8.frozen? ⟨w.heap.size, 2, none⟩ = false := Lib.frozen_of_heap hh8 2
  have z3 : w8.cell? ⟨w.heap.size, 3, none⟩ = some (.int .i64 0) := (Lib.cell_of_heap hh8 _).trans rfl
  have f3 : w8.frozen? ⟨w.heap.size, 3, none⟩ = false := Lib.frozen_of_heap hh8 3
  have z4 : w8.cell? ⟨w.heap.size, 4, none⟩ = some (.slice none 0 0) := (Lib.cell_of_heap hh8 _).trans rfl
  have f4 : w8.frozen? ⟨w.heap.size, 4, none⟩ = false := Lib.frozen_of_heap hh8 4
  have z5 : w8.cell? ⟨w.heap.size, 5, none⟩ = some (.string ⟨#[]⟩) := (Lib.cell_of_heap hh8 _).trans rfl
  have f5 : w8.frozen? ⟨w.heap.size, 5, none⟩ = false := Lib.frozen_of_heap hh8 5
  have HH8 := Lib.hid hh8
  clear hh8
  cases fin with
  | false =>
    simp only [Bool.false_eq_true, if_false] at HOR2 ⊢
    go_wp2
    refine bodyPost_ret (v := .tuple #[opZ, .bool false]) (by simp [results, Tryd.results43, go_sem, z0, z1, z2, z3, z4, z5]; try rfl) rfl ?_
    have hk := keep6 w8 w.heap.size (.int .i64 0) (.int .i64 0) (.int .i64 0) (.int .i64 0) (.slice none 0 0) (.string (bs []))
    have hbf := kpBelow (HBA.out.trans (HB8.out.mono HBA.out.size)) hk (fun y e => by rw [e]; exact Nat.le_refl _)
    · unfold ReadOpRes
      rw [HOR2]
      exact ⟨.slice none 0 0, rfl, IntsV.nil _ _, hbf⟩
  | true =>
    simp only [if_true] at HOR2 ⊢
    go_wp2
    refine bodyPost_ret (v := .tuple #[(opV ⟨(numv x0).1, (numv x1).1, (numv x2).1, (numv x3).1, (rdList numv x4).1, x5⟩ (.slice LA m lc)), .bool true]) (by simp [results, Tryd.results43, go_sem, z0, z1, z2, z3, z4, z5]; try rfl) rfl ?_
    have hk := keep6 w8 w.heap.size (iv (numv x0).1) (iv (numv x1).1) (iv (numv x2).1) (iv (numv x3).1) (.slice LA m lc) (sv x5)
    have hbf := kpBelow (HBA.out.trans (HB8.out.mono HBA.out.size)) hk (fun y e => by rw [e]; exact Nat.le_refl _)
    · unfold ReadOpRes
      rw [HOR2]
      refine ⟨.slice LA m lc, rfl, ⟨LA, lc, by rw [HM.out], (HROW8.out.keep (hk.kept fun b hb => ⟨Nat.lt_of_lt_of_le hb.2.1 hsz8, by have := HZA.out; have := hb.1; omega⟩)).more fun b hb => ⟨by have := HZA.out; have := hb.1; omega, Nat.lt_of_lt_of_le hb.2.1 (Nat.le_trans hsz8 hk.size)⟩⟩, hbf⟩
end Go.Proofs.YtkggmckfdkpldaaDoor
