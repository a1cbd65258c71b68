/-
  The walk of ref05.Copy.
  Conditions: the argument reads as identities.
-/
import Derived.Test.YtmnhgkhidepojaaIdR
import Derived.Test.YtmnhgkhidepojaaBrow
namespace Go.Proofs.Ytmnhgkhidepojaa
open Go.RowKit

/-- A copy of identities. -/
def CopyRes (n : Int) (xs : List Idn) (w : World) (e : Ending) (w' : World) : Prop :=
  ∃ (A : Option Addr) (c : Nat), e = .returned (.agg #[.int .i64 n, .slice A xs.length c]) ∧ (A = none → c = 0) ∧ w'.ownsRow w.heap.size 39 4 (.slice A xs.length c) xs.length (flt idC xs) ∧ Below w.heap.size w w'

set_option maxHeartbeats 800000 in
set_option maxRecDepth 100000 in
theorem copy_any (n : Int) (xs : List Idn) (A : Option Addr) (c : Nat) (w : World) (hl : xs.length ≤ 1000) (h : Row w (Lt w.heap.size) A (flt idC xs)) :
    Calls Try.prog 22 #[.agg #[.int .i64 n, .slice A xs.length c]] w (CopyRes n xs w) := by
  obtain ⟨m, hm⟩ : ∃ m, m = xs.length := ⟨_, rfl⟩
  have HL := Lib.hid (show (flt idC xs).length = m * 4 by rw [flt_length idC_len, hm])
  rw [← hm] at hl ⊢
  have HM := Lib.hid hm
  obtain ⟨i0, hi, hz0, hz1, hz2⟩ := info_parts infoId
  have hb0 : Below w.heap.size w ((w.alloc (.cells #[.int .i64 n, .slice A m c] 29)).alloc (.cells #[.int .i64 0, .slice none 0 0] 29)) := ((Below.refl _ _).alloc (Nat.le_refl _) _).alloc (by simp) _
  have h00 := alloc2 w (.cells #[.int .i64 n, .slice A m c] 29) (.cells #[.int .i64 0, .slice none 0 0] 29)
  have HB0 := Lib.hid hb0
  have H00 := Lib.hid h00
  have HR := Lib.hid ((h.keep (kept_below hb0)).more (S' := Lt ((w.alloc (.cells #[.int .i64 n, .slice A m c] 29)).alloc (.cells #[.int .i64 0, .slice none 0 0] 29)).heap.size) fun b hb => by unfold Lt at hb ⊢; simp; omega)
  have HS := Lib.hid (show ((w.alloc (.cells #[.int .i64 n, .slice A m c] 29)).alloc (.cells #[.int .i64 0, .slice none 0 0] 29)).heap.size = w.heap.size + 2 by simp)
  clear hb0 h00 hm h
  go_enter Try.func22, Try.ntmps22
  go_wp2_with (at_builtin; refine wpList_append_row rfl _ _ 27 rfl (w.heap.size + 2) 39 i0 _ 4 56 Try.underlying27 hi hz0 hz1 hz2 rfl (by omega) (.slice none 0 0) 0 [] rfl (World.ownsRow_nil _ _ _ _) _ A m c (flt idC xs) rfl HL.out HR.out (flt_one' idC_one xs) (by unfold maxLen; omega) (by omega) (Nat.le_of_eq HS.out.symm) ?_)
  intro v w1 hown hg hat
  try simp only [Nat.zero_add, List.nil_append] at hown
  have hk := (Kp.refl (fun _ => False) _).grown hg (fun r hr _ => by cases hr)
  have hlt := hown.lt
  obtain ⟨A2, c2, rfl, hA2⟩ := own_slice hown
  have hq0 := hk.heap H00.out.1 (fun e => e)
  have hq1 := hk.heap H00.out.2 (fun e => e)
  have hb1 : Below w.heap.size w w1 := HB0.out.grown hg (by simp; omega) (fun k hk => by cases hk)
  have hs1 : w.heap.size + 2 ≤ w1.heap.size := by have := hk.size; have := HS.out; omega
  obtain ⟨wp, hwp⟩ : ∃ wp, wp = w1.setCell ⟨w.heap.size, 1, none⟩ (.slice A2 m c2) := ⟨_, rfl⟩
  have hp0 : wp.heap[w.heap.size]? = some (.cells #[.int .i64 n, .slice A2 m c2] 29 (0, 0)) := by rw [hwp]; exact setCell_heap (o := 1) (v := .slice A2 m c2) hq0
  have hkp : Kp (fun y => y = w.heap.size) w1 wp := by rw [hwp]; exact Kp.setCell (M := fun y => y = w.heap.size) (Kp.refl _ _) (fun _ => rfl) _
  have hp1 := hkp.heap hq1 (by omega)
  obtain ⟨wq, hwq⟩ : ∃ wq, wq = (wp.setCell ⟨w.heap.size + 1, 0, none⟩ (.int .i64 n)).setCell ⟨w.heap.size + 1, 1, none⟩ (.slice A2 m c2) := ⟨_, rfl⟩
  have hr1 : wq.heap[w.heap.size + 1]? = some (.cells #[.int .i64 n, .slice A2 m c2] 29 (0, 0)) := by rw [hwq]; exact setCell_heap (o := 1) (v := .slice A2 m c2) (setCell_heap (o := 0) (v := .int .i64 n) hp1)
  have hkq : Kp (fun y => y = w.heap.size + 1) wp wq := by rw [hwq]; exact Kp.setCell (M := fun y => y = w.heap.size + 1) (Kp.setCell (M := fun y => y = w.heap.size + 1) (Kp.refl _ _) (fun _ => rfl) _) (fun _ => rfl) _
  have hk2 : Kp (fun y => w.heap.size ≤ y ∧ y < w.heap.size + 2) w1 wq := (hkp.more fun x _ e => by omega).trans hkq (fun x _ e => by omega)
  have hown2 := hk2.own hown (fun g hg e => by have := (hlt g hg).1; omega)
  have hrow := ownMono hown2 (base' := w.heap.size) (by omega)
  have hb2 : Below w.heap.size w wq := ⟨hk2.os.trans hb1.os, hk2.tape.trans hb1.tape, hk2.output.trans hb1.output, Nat.le_trans hb1.size hk2.size, fun b hb => (hk2.block b (by omega) (by omega)).trans (hb1.block b hb)⟩
  have p0 : w1.cell? ⟨w.heap.size, 0, none⟩ = some (.int .i64 n) := (Lib.cell_of_heap hq0 _).trans rfl
  have p1 : w1.cell? ⟨w.heap.size, 1, none⟩ = some (.slice A m c) := (Lib.cell_of_heap hq0 _).trans rfl
  have f1 : w1.frozen? ⟨w.heap.size, 1, none⟩ = false := Lib.frozen_of_heap hq0 1
  have q0 : w1.cell? ⟨w.heap.size + 1, 0, none⟩ = some (.int .i64 0) := (Lib.cell_of_heap hq1 _).trans rfl
  have q1 : w1.cell? ⟨w.heap.size + 1, 1, none⟩ = some (.slice none 0 0) := (Lib.cell_of_heap hq1 _).trans rfl
  have g0 : w1.frozen? ⟨w.heap.size + 1, 0, none⟩ = false := Lib.frozen_of_heap hq1 0
  have g1 : w1.frozen? ⟨w.heap.size + 1, 1, none⟩ = false := Lib.frozen_of_heap hq1 1
  have z0 : wq.cell? ⟨w.heap.size + 1, 0, none⟩ = some (.int .i64 n) := (Lib.cell_of_heap hr1 _).trans rfl
  have z1 : wq.cell? ⟨w.heap.size + 1, 1, none⟩ = some (.slice A2 m c2) := (Lib.cell_of_heap hr1 _).trans rfl
  have HROW := Lib.hid hrow
  have HB2 := Lib.hid hb2
  have HWP := Lib.hid hwp
  have HWQ := Lib.hid hwq
  have HA2 := Lib.hid hA2
  have hsz1 : w.heap.size < w1.heap.size := by omega
  have hsz2 : w.heap.size + 1 < w1.heap.size := by omega
  clear hown hk hg hat hlt hq0 hq1 hb1 hrow H00 HB0 HR HS hp0 hkp hp1 hr1 hkq hk2 hown2 hb2 hwp hwq hA2 hi
  go_wp2_with fail
  rw [← HWP.out, ← HWQ.out]
  refine bodyPost_ret (v := .agg #[.int .i64 n, .slice A2 m c2]) ?_ rfl ?_
  · clear HWQ HWP HROW HB2
    simp [results, Try.results22, go_sem, z0, z1]
  · exact ⟨A2, c2, by rw [← HM.out], HA2.out, by rw [← HM.out]; exact HROW.out, HB2.out⟩
end Go.Proofs.Ytmnhgkhidepojaa
