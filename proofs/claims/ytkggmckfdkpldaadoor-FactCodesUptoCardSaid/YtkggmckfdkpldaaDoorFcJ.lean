/-
  The walks of fact.next and all over operations, done over codes, ReadCode.
  Conditions: 'Env'; texts of at most 10^9 bytes.
-/
import Derived.Test.YtkggmckfdkpldaaDoorFcI
namespace Go.Proofs.YtkggmckfdkpldaaDoor
open Go.RowKit

theorem OpsV.nw {w0 w w' : World} {fb : Nat} {v : Value} {l : List OpF} (h : OpsV w (Nw w0 fb w) v l) (hk : Kp (fun y => y = fb) w w') : OpsV w' (Nw w0 fb w') v l :=
  (h.keep (hk.kept fun b hb => ⟨hb.2.1, hb.2.2⟩)).more fun b hb => ⟨hb.1, Nat.lt_of_lt_of_le hb.2.1 hk.size, hb.2.2⟩
set_option maxHeartbeats 1600000 in
set_option maxRecDepth 100000 in
theorem listOpIn_any (x : List UInt8) (pb : Nat) (w : World) (he : Env w) (hs : x.length ≤ 1000000000) (hp : w.cell? ⟨pb, 0, none⟩ = some (fnV 43)) :
    Calls Tryd.prog 61 #[sv x, .pointer (some ⟨pb, 0, none⟩)] w (ListOpRes x w) := by
  have HU := Lib.hid (listOp_any x w he hs)
  clear he
  go_enter Tryd.func61, Tryd.ntmps61
  go_wp2_with fail
  refine HU.out.mono ?_
  rintro e w1 ⟨lv, rfl, h2, h3⟩
  have HRES : Hid (ListOpRes x w (.returned (.tuple #[lv, .bool (rdList opR x).2])) w1) := Lib.hid ⟨lv, rfl, h2, h3⟩
  clear h2 h3 hp
  go_wp2
  go_ret2
  exact HRES.out
set_option maxHeartbeats 1600000 in
set_option maxRecDepth 100000 in
theorem nextOps_any (w0 : World) (fb pb : Nat) (x : List UInt8) (L : List (List UInt8)) (ok : Bool) (w : World) (he : Env w0) (hb : Below w0.heap.size w0 w) (h : FAt w0.heap.size fb w (x :: L) ok) (hx : x.length ≤ 1000000000) (hp : w.cell? ⟨pb, 0, none⟩ = some (fnV 43)) (hne : pb ≠ fb) :
    Calls Tryd.prog 60 #[.pointer (some ⟨fb, 0, none⟩), .func (.func 61) #[] #[.pointer (some ⟨pb, 0, none⟩)]] w (NextRes w0 fb L (ok && (rdList opR x).2) (fun w' v => OpsV w' (Nw w0 fb w') v (rdList opR x).1) w) := by
  have HT := Lib.hid (text_any w0.heap.size fb x L ok w h)
  have HL := Lib.hid h.low
  have HLT := Lib.hid h.lt
  have HC := Lib.hid fun (u : World) (hu : Env u) (hp : u.cell? ⟨pb, 0, none⟩ = some (fnV 43)) => listOpIn_any x pb u hu hx hp
  obtain ⟨g, hg⟩ : ∃ g, g = (rdList opR x).2 := ⟨_, rfl⟩
  have HP := Lib.hid hp
  unfold ListOpRes at HC
  rw [← hg] at HC
  rw [← hg]
  clear hg hx h hp
  have HE := Lib.hid he
  have HB := Lib.hid hb
  clear he hb
  go_enter Tryd.func60, Tryd.ntmps60
  go_wp2_with fail
  refine HT.out.mono ?_
  rintro e w1 ⟨rfl, hF1, hk1⟩
  have HB1 := Lib.hid (kpBelow HB.out hk1 fun y e => by rw [e]; exact HL.out)
  have HF1 := Lib.hid hF1
  have HK1 := Lib.hid hk1
  have HP1 : Hid (w1.cell? ⟨pb, 0, none⟩ = some (fnV 43)) := Lib.hid ((hk1.kept (S := fun y => y = pb) (fun b hb => by subst hb; exact ⟨block_lt_of_cell HP.out, hne⟩) ⟨pb, 0, none⟩ rfl).trans HP.out)
  clear hF1 hk1 HT HB
  go_wp2_with fail
  refine (HC.out w1 (HE.out.below HB1.out) HP1.out).mono ?_
  rintro e w2 ⟨lv, rfl, hints, hb2⟩
  have hF2 := HF1.out.kp hb2
  obtain ⟨c1, f1⟩ := hF2.okCell
  have HB2 := Lib.hid (HB1.out.trans (hb2.mono HB1.out.size))
  have HK2 : Hid (Kp (fun y => y = fb) w w2) := Lib.hid (HK1.out.below hb2)
  have HF2 := Lib.hid hF2
  have HI : Hid (OpsV w2 (Nw w0 fb w2) lv (rdList opR x).1) := Lib.hid (hints.more fun b hb => ⟨Nat.le_trans HB1.out.size hb.1, hb.2, by have := HF1.out.lt; have := hb.1; omega⟩)
  clear hF2 hb2 HC HF1 HK1 hints
  have HRES : ∀ b, b = (ok && g) → Hid (NextRes w0 fb L (ok && g) (fun w' v => OpsV w' (Nw w0 fb w') v (rdList opR x).1) w (.returned lv) (w2.setCell ⟨fb, 1, none⟩ (.bool b))) := fun b hbb => Lib.hid ⟨_, rfl, HI.out.nw (setKp _ _ _ _), by rw [← hbb]; exact fat_ok HF2.out b, HK2.out.setCell (fun _ => rfl) _, HB2.out.setCell (p := ⟨fb, 1, none⟩) HL.out _⟩
  cases ok with
  | false =>
    have HR := HRES false rfl
    clear HRES
    go_wp2
    go_ret
    exact HR.out
  | true =>
    have HR := HRES g (by simp)
    clear HRES
    go_wp2
    go_ret
    exact HR.out
set_option maxHeartbeats 1600000 in
set_option maxRecDepth 100000 in
theorem allOp_any (w0 : World) (fb : Nat) (x : List UInt8) (L : List (List UInt8)) (ok : Bool) (w : World) (he : Env w0) (hb : Below w0.heap.size w0 w) (h : FAt w0.heap.size fb w (x :: L) ok) (hx : x.length ≤ 1000000000) :
    Calls Tryd.prog 42 #[.pointer (some ⟨fb, 0, none⟩), fnV 43] w (NextRes w0 fb L (ok && (rdList opR x).2) (fun w' v => OpsV w' (Nw w0 fb w') v (rdList opR x).1) w) := by
  have hb1 : Below w.heap.size w (w.alloc (.cells #[fnV 43] 82)) := (Below.refl _ _).alloc (Nat.le_refl _) _
  have hlt := h.lt
  have HC := Lib.hid (nextOps_any w0 fb w.heap.size x L ok (w.alloc (.cells #[fnV 43] 82)) he (hb.trans (hb1.mono hb.size)) (h.kp hb1) hx ((Lib.cell_of_heap (alloc1 w _) _).trans rfl) (by omega))
  have HB1 := Lib.hid hb1
  clear he hb h hb1
  go_enter Tryd.func42, Tryd.ntmps42
  go_wp2_with fail
  refine HC.out.mono ?_
  rintro e w1 ⟨v, rfl, h1, h2, h3, h4⟩
  have HRES : Hid (NextRes w0 fb L (ok && (rdList opR x).2) (fun w' v => OpsV w' (Nw w0 fb w') v (rdList opR x).1) w (.returned v) w1) := Lib.hid ⟨v, rfl, h1, h2, (Kp.ofBelow HB1.out).trans h3 (fun _ _ e => e), h4⟩
  clear h1 h2 h3 h4
  go_wp2
  go_ret
  exact HRES.out
abbrev cdZ : Value := .agg #[iv 0, iv 0, .slice none 0 0]
set_option maxHeartbeats 1600000 in
set_option maxRecDepth 100000 in
theorem doneCode_any (B fb : Nat) (L : List (List UInt8)) (ok : Bool) (p r : Int) (A : Option Addr) (n c : Nat) (w : World) (h : FAt B fb w L ok) :
    Calls Tryd.prog 39 #[.pointer (some ⟨fb, 0, none⟩), .agg #[iv p, iv r, .slice A n c]] w fun e w' => e = .returned (.tuple #[if ok = true then .agg #[iv p, iv r, .slice A n c] else cdZ, .bool ok]) ∧ Below w.heap.size w w' := by
  have c1 := h.okCell.1
  have hlt := h.lt
  clear h
  cases ok with
  | false =>
    go_enter Tryd.func39, Tryd.ntmps39
    go_wp2
    refine bodyPost_ret (v := .tuple #[cdZ, .bool false]) (by simp [results, Tryd.results39, go_sem]) rfl ⟨rfl, ?_⟩
    exact (((Below.refl _ _).alloc (Nat.le_refl _) _).alloc (by simp) _).alloc (by simp; omega) _
  | true =>
    go_enter Tryd.func39, Tryd.ntmps39
    go_wp2
    all_goals
      refine bodyPost_ret (v := .tuple #[.agg #[iv p, iv r, .slice A n c], .bool true]) (by simp [results, Tryd.results39, go_sem]) rfl ⟨rfl, ?_⟩
      exact ((Below.refl _ _).alloc (Nat.le_refl _) _).alloc (by simp) _
/-- A code is read out of three fields. -/
theorem cdR_opn {s x0 x1 x2 : List UInt8} {ok : Bool} (h : opn s 3 = ([x0, x1, x2], ok)) :
    cdR s = if (ok && (numv x0).2 && (numv x1).2 && (rdList opR x2).2) = true then (⟨(numv x0).1, (numv x1).1, (rdList opR x2).1⟩, true) else (CdF.zero, false) := by
  unfold opn at h
  unfold cdR
  by_cases hc : (unpk s).2 = true ∧ (unpk s).1.length = 3
  · rw [if_pos hc] at h
    have e1 := (Prod.mk.inj h).1
    have e2 := (Prod.mk.inj h).2
    rw [show unpk s = ([x0, x1, x2], true) from Prod.ext e1 hc.1]
    simp only [← e2, Bool.true_and, Bool.and_eq_true, and_assoc]
  · rw [if_neg hc] at h
    have e2 := (Prod.mk.inj h).2
    rw [← e2]
    simp only [Bool.false_and, Bool.false_eq_true, if_false]
    split
    · rename_i e
      rw [e] at hc
      exact absurd ⟨rfl, rfl⟩ hc
    · rfl
theorem three {α : Type} {L : List α} (h : L.length = 3) : ∃ x0 x1 x2, L = [x0, x1, x2] := by
  match L, h with
  | [x0, x1, x2], _ => exact ⟨x0, x1, x2, rfl⟩
/-- How a code is read. -/
def ReadCodeRes (s : List UInt8) (w : World) (e : Ending) (w' : World) : Prop :=
  ∃ lv, e = .returned (.tuple #[cdV (cdR s).1 lv, .bool (cdR s).2]) ∧ OpsV w' (Fr w.heap.size w'.heap.size) lv (cdR s).1.ops ∧ Below w.heap.size w w'
theorem keep3 (w : World) (b : Nat) (v0 v1 v2 : Value) : Kp (fun y => y = b) w (((w.setCell ⟨b, 0, none⟩ v0).setCell ⟨b, 1, none⟩ v1).setCell ⟨b, 2, none⟩ v2) :=
  Kp.setCell (M := fun y => y = b) (Kp.setCell (M := fun y => y = b) (Kp.setCell (M := fun y => y = b) (Kp.refl _ _) (fun _ => rfl) v0) (fun _ => rfl) v1) (fun _ => rfl) v2
set_option maxHeartbeats 1600000 in
set_option maxRecDepth 100000 in
theorem readCode_any (s : List UInt8) (w : World) (he : Env w) (hs : s.length ≤ 1000000000) :
    Calls Tryd.prog 16 #[sv s] w (ReadCodeRes s w) := by
  obtain ⟨wa, hwa⟩ : ∃ wa, wa = w.alloc (.cells #[.int .i64 0, .int .i64 0, .slice none 0 0] 37) := ⟨_, rfl⟩
  have hba : Below w.heap.size w wa := by rw [hwa]; exact (Below.refl _ _).alloc (Nat.le_refl _) _
  have HA : Hid (wa.heap[w.heap.size]? = some (.cells #[.int .i64 0, .int .i64 0, .slice none 0 0] 37 (0, 0))) := Lib.hid (by rw [hwa]; exact alloc1 _ _)
  have HZA : Hid (wa.heap.size = w.heap.size + 1) := Lib.hid (by rw [hwa]; simp)
  have hea := he.below hba
  have HOP := Lib.hid (open_any s 3 wa hea hs (by decide))
  have HE := Lib.hid hea
  have HBA := Lib.hid hba
  obtain ⟨x0, x1, x2, hL⟩ := three (opn_len s 3)
  obtain ⟨ok, hok⟩ : ∃ ok, ok = (opn s 3).2 := ⟨_, rfl⟩
  have hle : ∀ x ∈ [x0, x1, x2], x.length ≤ 1000000000 := fun x hx => Nat.le_trans (opn_le (by rw [hL]; exact hx)) hs
  have HX0 := Lib.hid (hle x0 (by simp))
  have HX1 := Lib.hid (hle x1 (by simp))
  have HX2 := Lib.hid (hle x2 (by simp))
  have HOR := Lib.hid (cdR_opn (s := s) (Prod.ext hL hok.symm))
  have HOP2 : Hid (Calls Tryd.prog 38 #[sv s, .int .i64 3] wa fun e w' => ∃ fb, e = .returned (.pointer (some ⟨fb, 0, none⟩)) ∧ fb < w'.heap.size ∧ FAt wa.heap.size fb w' [x0, x1, x2] ok ∧ Below wa.heap.size wa w') := Lib.hid (by
    have h := HOP.out
    unfold OpenRes at h
    rw [hL, ← hok] at h
    exact h)
  clear HOP hba hea he hle hok hL
  go_enter Tryd.func16, Tryd.ntmps16
  go_wp2_with fail
  rw [← hwa]
  refine HOP2.out.mono ?_
  rintro e w1 ⟨fb, rfl, hfl, hF, hb⟩
  have HB1 := Lib.hid hb
  have HF1 := Lib.hid hF
  clear hF hb HOP2 hfl hwa
  go_wp2_with fail
  refine (nextInt_any wa fb x0 _ _ w1 HE.out HB1.out HF1.out HX0.out).mono ?_
  rintro e w2 ⟨v, rfl, rfl, hF, hk, hb⟩
  have HB2 := Lib.hid hb
  have HF2 := Lib.hid hF
  clear hF hk hb HB1 HF1
  go_wp2_with fail
  refine (nextInt_any wa fb x1 _ _ w2 HE.out HB2.out HF2.out HX1.out).mono ?_
  rintro e w3 ⟨v, rfl, rfl, hF, hk, hb⟩
  have HB3 := Lib.hid hb
  have HF3 := Lib.hid hF
  clear hF hk hb HB2 HF2
  go_wp2_with fail
  refine (allOp_any wa fb x2 _ _ w3 HE.out HB3.out HF3.out HX2.out).mono ?_
  rintro e w7 ⟨lv, rfl, hI, hF, hk, hb⟩
  have HB7 := Lib.hid hb
  have HF7 := Lib.hid hF
  have HI7 := Lib.hid hI
  clear hF hk hb hI HB3 HF3
  obtain ⟨LA, lc, vs, rfl, hvs, hops⟩ := HI7.out
  obtain ⟨m, hm⟩ : ∃ m, m = vs.length := ⟨_, rfl⟩
  rw [← hm]
  have HM := Lib.hid hm
  have HVS := Lib.hid hvs
  have HOPS := Lib.hid hops
  clear hm hvs hops HI7
  go_wp2_with fail
  refine (doneCode_any wa.heap.size fb [] _ (numv x0).1 (numv x1).1 LA m lc w7 HF7.out).mono ?_
  rintro e w8 ⟨rfl, hb8⟩
  have HB8 := Lib.hid (HB7.out.trans (hb8.mono HB7.out.size))
  have HOPS8 := Lib.hid (HOPS.out.keep (fun p hp => hb8.cell hp.2.1))
  have hsz8 := hb8.size
  obtain ⟨fin, hfin⟩ : ∃ fin, fin = (ok && (numv x0).2 && (numv x1).2 && (rdList opR x2).2) := ⟨_, rfl⟩
  have HOR2 := HOR.out
  rw [← hfin] at HOR2 ⊢
  have hh8 := (HB8.out.block w.heap.size (by rw [HZA.out]; omega)).trans HA.out
  clear hfin HOR
  have z0 : w8.cell? ⟨w.heap.size, 0, none⟩ = some (.int .i64 0) := (Lib.cell_of_heap hh8 _).trans rfl
  have f0 : w8.frozen? ⟨w.heap.size, 0, none⟩ = false := Lib.frozen_of_heap hh8 0
  have z1 : w8.cell? ⟨w.heap.size, 1, none⟩ = some (.int .i64 0) := (Lib.cell_of_heap hh8 _).trans rfl
  have f1 : w8.frozen? ⟨w.heap.size, 1, none⟩ = false := Lib.frozen_of_heap hh8 1
  have z2 : w8.cell? ⟨w.heap.size, 2, none⟩ = some (.slice none 0 0) := (Lib.cell_of_heap hh8 _).trans rfl
  have f2 : w8.frozen? ⟨w.heap.size, 2, none⟩ = false := Lib.frozen_of_heap hh8 2
  have HH8 := Lib.hid hh8
  clear hh8
  cases fin with
  | false =>
    simp only [Bool.false_eq_true, if_false] at HOR2 ⊢
    go_wp2
    refine bodyPost_ret (v := .tuple #[cdZ, .bool false]) (by simp [results, Tryd.results16, go_sem, z0, z1, z2]; try rfl) rfl ?_
    have hk := keep3 w8 w.heap.size (.int .i64 0) (.int .i64 0) (.slice none 0 0)
    have hbf := kpBelow (HBA.out.trans (HB8.out.mono HBA.out.size)) hk (fun y e => by rw [e]; exact Nat.le_refl _)
    · unfold ReadCodeRes
      rw [HOR2]
      exact ⟨.slice none 0 0, rfl, OpsV.nil _ _, hbf⟩
  | true =>
    simp only [if_true] at HOR2 ⊢
    go_wp2
    refine bodyPost_ret (v := .tuple #[(.agg #[iv (numv x0).1, iv (numv x1).1, .slice LA m lc]), .bool true]) (by simp [results, Tryd.results16, go_sem, z0, z1, z2]; try rfl) rfl ?_
    have hk := keep3 w8 w.heap.size (iv (numv x0).1) (iv (numv x1).1) (.slice LA m lc)
    have hbf := kpBelow (HBA.out.trans (HB8.out.mono HBA.out.size)) hk (fun y e => by rw [e]; exact Nat.le_refl _)
    · unfold ReadCodeRes
      rw [HOR2]
      refine ⟨.slice LA m lc, rfl, ⟨LA, lc, vs, by rw [HM.out], HVS.out, (HOPS8.out.keep (hk.kept fun b hb => ⟨Nat.lt_of_lt_of_le hb.2.1 hsz8, by have := HZA.out; have := hb.1; omega⟩)).more fun b hb => ⟨by have := HZA.out; have := hb.1; omega, Nat.lt_of_lt_of_le hb.2.1 (Nat.le_trans hsz8 hk.size)⟩⟩, hbf⟩
end Go.Proofs.YtkggmckfdkpldaaDoor
