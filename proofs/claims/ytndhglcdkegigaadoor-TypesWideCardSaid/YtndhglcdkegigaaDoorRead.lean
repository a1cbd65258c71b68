/-
  The walks of the reader of types: mark, kind, Parse.
  Conditions: the reader lies in memory; the text is at most 4000000 bytes long.
-/
import Derived.Test.YtndhglcdkegigaaDoorIdx
import Derived.Test.YtndhglcdkegigaaDoorMSt
namespace Go.Proofs.YtndhglcdkegigaaDoor
open Go.RowKit

def RdAt (rb : Nat) (s : List UInt8) (left : Int) (w : World) : Prop := w.heap[rb]? = some (.cells #[sv s, .int .i64 left] 61 (0, 0))

theorem extract_tail (x : UInt8) (r : List UInt8) : (bs (x :: r)).extract 1 (bs (x :: r)).size = bs r := by
  apply ByteArray.ext
  simp [bs, ByteArray.size]

theorem cons_full (x : UInt8) (r : List UInt8) : (bs (x :: r)).toList.isEmpty = false := by rw [Lib.toList_data, bs_data]; rfl
theorem cons_size (x : UInt8) (r : List UInt8) : 0 < (bs (x :: r)).size := by rw [bs_size]; simp

def MarkYes (rb : Nat) (r : List UInt8) (left : Int) (w : World) (e : Ending) (w' : World) : Prop := e = .returned (.bool true) ∧ RdAt rb r left w' ∧ Kp (fun y => y = rb) w w'

set_option maxHeartbeats 4000000 in
set_option maxRecDepth 100000 in
theorem mark_yes (rb : Nat) (x : UInt8) (c : Int) (r : List UInt8) (left : Int) (w : World) (hc : c = (x.toNat : Int)) (h : RdAt rb (x :: r) left w) :
    Calls Tryd.prog 53 #[.pointer (some ⟨rb, 0, none⟩), .int .u8 c] w (MarkYes rb r left w) := by
  have c0 : w.cell? ⟨rb, 0, none⟩ = some (sv (x :: r)) := (Lib.cell_of_heap h _).trans rfl
  have f0 : w.frozen? ⟨rb, 0, none⟩ = false := Lib.frozen_of_heap h 0
  have hK := Kp.setCell (M := fun y => y = rb) (Kp.refl _ w) (b := rb) (o := 0) (fun _ => rfl) (sv r)
  have hR : RdAt rb r left (w.setCell ⟨rb, 0, none⟩ (sv r)) := setCell_heap h
  have HK := Lib.hid hK
  have HR := Lib.hid hR
  clear hK hR h
  subst hc
  have he := cons_full x r
  have hs := cons_size x r
  have hg : ((((bs (x :: r))[0]'hs).toNat : Int) != (x.toNat : Int)) = false := by
    have : (bs (x :: r))[0]'hs = x := rfl
    rw [this]
    simp
  have ht := extract_tail x r
  go_enter Tryd.func53, Tryd.ntmps53
  go_wp2
  go_ret
  exact ⟨rfl, HR.out, HK.out⟩

set_option maxHeartbeats 4000000 in
set_option maxRecDepth 100000 in
theorem mark_no (rb : Nat) (x : UInt8) (c : Int) (s : List UInt8) (left : Int) (w : World) (hc : c = (x.toNat : Int)) (hx : s.head? ≠ some x) (h : RdAt rb s left w) :
    Calls Tryd.prog 53 #[.pointer (some ⟨rb, 0, none⟩), .int .u8 c] w fun e w' => e = .returned (.bool false) ∧ w = w' := by
  have c0 : w.cell? ⟨rb, 0, none⟩ = some (sv s) := (Lib.cell_of_heap h _).trans rfl
  subst hc
  clear h
  cases s with
  | nil =>
    have he : (bs []).toList.isEmpty = true := by rw [Lib.toList_data, bs_data]; rfl
    clear hx
    go_enter Tryd.func53, Tryd.ntmps53
    go_wp2
    go_ret
    exact ⟨rfl, rfl⟩
  | cons y r =>
    have he := cons_full y r
    have hs := cons_size y r
    have hg : ((((bs (y :: r))[0]'hs).toNat : Int) != (x.toNat : Int)) = true := by
      have : (bs (y :: r))[0]'hs = y := rfl
      rw [this, bne_iff_ne]
      intro e
      refine hx ?_
      have : y.toNat = x.toNat := by omega
      rw [List.head?_cons, UInt8.toNat_inj.1 this]
    clear hx
    go_enter Tryd.func53, Tryd.ntmps53
    go_wp2
    go_ret
    exact ⟨rfl, rfl⟩

theorem kp_grown {rb : Nat} {w w' : World} (h : Kp (fun y => y = rb) w w') : w.grownBy w' (some rb) := ⟨h.os, h.tape, h.output, h.size, fun i hi hne => h.block i hi fun e => hne (by rw [e])⟩
theorem extract_front (a b : List UInt8) : (bs (a ++ b)).extract 0 a.length = bs a := by
  apply ByteArray.ext
  simp [bs]
theorem extract_back (a b : List UInt8) : (bs (a ++ b)).extract a.length (bs (a ++ b)).size = bs b := by
  apply ByteArray.ext
  simp [bs, ByteArray.size]

def KindYes (t : Ty) (rest : List UInt8) (rb : Nat) (left : Int) (w : World) (e : Ending) (w' : World) : Prop :=
  ∃ (u v : Value) (left' : Int), e = .returned (.tuple #[.agg #[u, v], .bool true]) ∧ TyIs w' (Fr w.heap.size w'.heap.size) t u v ∧ RdAt rb rest left' w' ∧ (rest.length : Int) ≤ left' ∧ left' ≤ left ∧ Kp (fun y => y = rb) w w'
def KindNo (rb : Nat) (w : World) (e : Ending) (w' : World) : Prop := ∃ (x : List UInt8) (a : Option Addr × Nat × Nat), e = .returned (.tuple #[.agg #[sv x, .slice a.1 a.2.1 a.2.2], .bool false]) ∧ Kp (fun y => y = rb) w w'
def KindRes (r : Option (Ty × List UInt8)) (rb : Nat) (left : Int) (w : World) (e : Ending) (w' : World) : Prop :=
  match r with
  | some (t, rest) => KindYes t rest rb left w e w'
  | none => KindNo rb w e w'

theorem markAt_end {s : List UInt8} (h : rs s = []) : markAt s = -1 := if_pos h
theorem markAt_mid {s : List UInt8} (h : rs s ≠ []) : markAt s = ((nm s).length : Int) := if_neg h
theorem rd_none {n : Nat} {s : List UInt8} (h : nm s = []) : rd (n + 1) s = none := by rw [rd, if_pos h]
theorem rd_end {n : Nat} {s : List UInt8} (h : nm s ≠ []) (hr : rs s = []) : rd (n + 1) s = some (.mk (nm s) [], []) := by rw [rd, if_neg h, hr]
theorem rd_kids {n : Nat} {s r : List UInt8} (h : nm s ≠ []) (hr : rs s = 60 :: r) : rd (n + 1) s = (rdK n r).map fun p => (.mk (nm s) p.1, p.2) := by
  rw [rd, if_neg h, hr]
  rfl
theorem rd_leaf {n : Nat} {s r : List UInt8} {c : UInt8} (h : nm s ≠ []) (hr : rs s = c :: r) (hc : c ≠ 60) : rd (n + 1) s = some (.mk (nm s) [], c :: r) := by
  rw [rd, if_neg h, hr]
  exact if_neg hc
theorem idx_end {s : List UInt8} {w : World} {e : Ending} {w' : World} (h : IdxRes s w e w') (hr : rs s = []) : e = .returned (.int .i64 (-1)) ∧ Below w.heap.size w w' := ⟨by rw [h.1, markAt_end hr], h.2⟩
theorem idx_mid {s : List UInt8} {w : World} {e : Ending} {w' : World} {k : Nat} (h : IdxRes s w e w') (hk : k = (nm s).length) (hr : rs s ≠ []) : e = .returned (.int .i64 (k : Int)) ∧ Below w.heap.size w w' := ⟨by rw [h.1, markAt_mid hr, hk], h.2⟩
theorem cut_name {s : List UInt8} {k : Nat} (hk : k = (nm s).length) : (bs s).extract 0 k = bs (nm s) := by
  have := extract_front (nm s) (rs s)
  rw [nm_rs] at this
  rw [hk]
  exact this
theorem cut_rest {s : List UInt8} {k : Nat} (hk : k = (nm s).length) : (bs s).extract k (bs s).size = bs (rs s) := by
  have := extract_back (nm s) (rs s)
  rw [nm_rs] at this
  rw [hk]
  exact this

/-- Behind the name: the reader at what follows, the result still zero, the type begun. -/
structure Begun (rb : Nat) (s : List UInt8) (left : Int) (ob : Nat) (w w' : World) : Prop where
  rd : RdAt rb (rs s) (left - 1) w'
  zero : w'.heap[w.heap.size]? = some (.cells #[.string ⟨#[]⟩, .slice none 0 0] 30 (0, 0))
  out : w'.heap[ob]? = some (.cells #[sv (nm s), .slice none 0 0] 30 (0, 0))
  kp : Kp (fun y => y = rb) w w'
  lt : w.heap.size < ob

theorem wide_leaf (w : World) (S : Nat → Prop) (n : List UInt8) (h : n.length ≤ 4000000) : TyIs w S (.mk n []) (sv n) (.slice none 0 0) := .mk n [] none 0 [] h (Nat.zero_le _) ⟨Nat.le_refl _, Nat.zero_le _⟩ rfl (Row.nil _ _ _) (fun i t p h => by simp at h)
theorem rdK_none {m : Nat} {s : List UInt8} (h : rd m s = none) : rdK (m + 1) s = none := by rw [rdK, h]
theorem rdK_more {m : Nat} {s r : List UInt8} {t : Ty} (h : rd m s = some (t, 44 :: r)) : rdK (m + 1) s = (rdK m r).map fun p => (t :: p.1, p.2) := by
  rw [rdK, h]
  rfl
theorem rdK_last {m : Nat} {s r : List UInt8} {t : Ty} (h : rd m s = some (t, 62 :: r)) : rdK (m + 1) s = some ([t], r) := by
  rw [rdK, h]
  rfl
theorem rdK_bad {m : Nat} {s r : List UInt8} {t : Ty} (h : rd m s = some (t, r)) (h1 : r.head? ≠ some 44) (h2 : r.head? ≠ some 62) : rdK (m + 1) s = none := by
  rw [rdK, h]
  cases r with
  | nil => rfl
  | cons c r =>
    have h3 : c ≠ 44 := fun e => h1 (by rw [e]; rfl)
    have h4 : c ≠ 62 := fun e => h2 (by rw [e]; rfl)
    simp [h3, h4]

set_option maxHeartbeats 16000000 in
set_option maxRecDepth 100000 in
theorem kind_any (rb : Nat) : ∀ (n : Nat) (s : List UInt8) (left : Int) (w : World), RdAt rb s left w → s.length ≤ 4000000 → (s.length : Int) ≤ left → left ≤ 20000 → 2 * s.length + 1 ≤ n →
    Calls Tryd.prog 30 #[.pointer (some ⟨rb, 0, none⟩)] w (KindRes (rd n s) rb left w) := by
  intro n
  induction n using Nat.strongRecOn with | ind n ih => ?_
  intro s left w hR hs hl hl2 hn
  obtain ⟨n, rfl⟩ : ∃ m, n = m + 1 := ⟨n - 1, by omega⟩
  obtain ⟨k, hk⟩ : ∃ k, k = (nm s).length := ⟨_, rfl⟩
  have hlt := lt_of_heap hR
  have hlen := nm_len s
  rw [← hk] at hlen
  have hW0 : RdAt rb s left (w.alloc (.cells #[.string ⟨#[]⟩, .slice none 0 0] 30)) := (heap_alloc_old _ _ hlt).trans hR
  have c0 : (w.alloc (.cells #[.string ⟨#[]⟩, .slice none 0 0] 30)).cell? ⟨rb, 0, none⟩ = some (sv s) := (Lib.cell_of_heap hW0 _).trans rfl
  have hIX := indexAny_any s (w.alloc (.cells #[.string ⟨#[]⟩, .slice none 0 0] 30)) (by omega)
  have HIX := Lib.hid hIX
  have HW0 := Lib.hid hW0
  have HCN := Lib.hid (cut_name hk)
  have HCR := Lib.hid (cut_rest hk)
  have HK := Lib.hid hk
  have IH := Lib.hid ih
  clear hW0 hk hR hIX ih
  by_cases hnm : nm s = []
  · have hk1 : k = 0 := by rw [HK.out, hnm]; rfl
    have hk0 : ((k : Int) == 0) = true := by simp; omega
    have HNM := Lib.hid hnm
    clear hnm hk1
    rcases hrs : rs s with _ | ⟨c, r⟩
    · have HRS := Lib.hid hrs
      clear hrs
      go_enter Tryd.func30, Tryd.ntmps30
      go_wp2_with fail
      refine HIX.out.mono ?_
      intro e w1 hix
      obtain ⟨rfl, hb1⟩ := idx_end hix HRS.out
      have hsk : (bs s).size = k := by rw [bs_size]; have h0 : (rs s).length = 0 := by (rw [HRS.out]; rfl)
                                       omega
      have hcr := HCR.out
      rw [hsk, HRS.out] at hcr
      have hR1 : RdAt rb s left w1 := (hb1.block _ (by simp; omega)).trans HW0.out
      have hZ1 := (hb1.block w.heap.size (by simp)).trans (alloc1 w _)
      have hbw1 : Below w.heap.size w w1 := ((Below.refl _ _).alloc (Nat.le_refl _) _).trans (hb1.mono (by simp))
      have hs1 : w.heap.size < w1.heap.size := lt_of_heap hZ1
      have hrb1 : rb < w1.heap.size := by omega
      have hcn := HCN.out
      have d0 : w1.cell? ⟨rb, 0, none⟩ = some (sv s) := (Lib.cell_of_heap hR1 _).trans rfl
      have d1 : w1.cell? ⟨rb, 1, none⟩ = some (.int .i64 left) := (Lib.cell_of_heap hR1 _).trans rfl
      have f1 : w1.frozen? ⟨rb, 1, none⟩ = false := Lib.frozen_of_heap hR1 1
      have hR2 : RdAt rb s (left - 1) (w1.setCell ⟨rb, 1, none⟩ (.int .i64 (left - 1))) := setCell_heap hR1
      have hZ2 : (w1.setCell ⟨rb, 1, none⟩ (.int .i64 (left - 1))).heap[w.heap.size]? = some (.cells #[.string ⟨#[]⟩, .slice none 0 0] 30 (0, 0)) := by rw [Below.heap_setCell _ _ _ _ (by simp; omega)]; exact hZ1
      have hK2 : Kp (fun y => y = rb) w (w1.setCell ⟨rb, 1, none⟩ (.int .i64 (left - 1))) := Kp.setCell (M := fun y => y = rb) (Kp.ofBelow hbw1) (fun _ => rfl) _
      have e0 : (w1.setCell ⟨rb, 1, none⟩ (.int .i64 (left - 1))).cell? ⟨rb, 0, none⟩ = some (sv s) := (Lib.cell_of_heap hR2 _).trans rfl
      have e1 : (w1.setCell ⟨rb, 1, none⟩ (.int .i64 (left - 1))).cell? ⟨rb, 1, none⟩ = some (.int .i64 (left - 1)) := (Lib.cell_of_heap hR2 _).trans rfl
      have g0 : (w1.setCell ⟨rb, 1, none⟩ (.int .i64 (left - 1))).frozen? ⟨rb, 0, none⟩ = false := Lib.frozen_of_heap hR2 0
      have z0 : (w1.setCell ⟨rb, 1, none⟩ (.int .i64 (left - 1))).cell? ⟨w.heap.size, 0, none⟩ = some (.string ⟨#[]⟩) := (Lib.cell_of_heap hZ2 _).trans rfl
      have z1 : (w1.setCell ⟨rb, 1, none⟩ (.int .i64 (left - 1))).cell? ⟨w.heap.size, 1, none⟩ = some (.slice none 0 0) := (Lib.cell_of_heap hZ2 _).trans rfl
      have y0 : (w1.setCell ⟨rb, 1, none⟩ (.int .i64 (left - 1))).frozen? ⟨w.heap.size, 0, none⟩ = false := Lib.frozen_of_heap hZ2 0
      have y1 : (w1.setCell ⟨rb, 1, none⟩ (.int .i64 (left - 1))).frozen? ⟨w.heap.size, 1, none⟩ = false := Lib.frozen_of_heap hZ2 1
      have hs2 : (w1.setCell ⟨rb, 1, none⟩ (.int .i64 (left - 1))).heap.size = w1.heap.size := by simp
      have HR2 := Lib.hid hR2
      have HZ2 := Lib.hid hZ2
      have HK2 := Lib.hid hK2
      clear hix hb1 hR1 hZ1 hbw1 hR2 hZ2 hK2 hs2
      have HZ2C0 : Hid (∀ x y : Value, (((w1.setCell ⟨rb, 1, none⟩ (.int .i64 (left - 1))).setCell ⟨w.heap.size, 0, none⟩ x).setCell ⟨w.heap.size, 1, none⟩ y).cell? ⟨w.heap.size, 0, none⟩ = some x) := Lib.hid fun x y => (Lib.cell_of_heap (setCell_heap (setCell_heap HZ2.out)) _).trans rfl
      have HZ2C1 : Hid (∀ x y : Value, (((w1.setCell ⟨rb, 1, none⟩ (.int .i64 (left - 1))).setCell ⟨w.heap.size, 0, none⟩ x).setCell ⟨w.heap.size, 1, none⟩ y).cell? ⟨w.heap.size, 1, none⟩ = some y) := Lib.hid fun x y => (Lib.cell_of_heap (setCell_heap (setCell_heap HZ2.out)) _).trans rfl
      go_wp2
      refine bodyPost_ret (v := .tuple #[.agg #[.string ⟨#[]⟩, .slice none 0 0], .bool false]) (by simp [results, Tryd.results30, go_sem, HZ2C0.out, HZ2C1.out]) rfl ?_
      rw [rd_none HNM.out]
      exact ⟨[], (none, 0, 0), rfl, Kp.setCell (M := fun y => y = rb) (Kp.setCell (M := fun y => y = rb) HK2.out (fun h => by omega) _) (fun h => by omega) _⟩
    · have HRS := Lib.hid hrs
      clear hrs
      go_enter Tryd.func30, Tryd.ntmps30
      go_wp2_with fail
      refine HIX.out.mono ?_
      intro e w1 hix
      obtain ⟨rfl, hb1⟩ := idx_mid hix HK.out (by rw [HRS.out]; simp)
      have hsk : k ≤ (bs s).size := by rw [bs_size]; omega
      have hcr := HCR.out
      rw [HRS.out] at hcr
      have hR1 : RdAt rb s left w1 := (hb1.block _ (by simp; omega)).trans HW0.out
      have hZ1 := (hb1.block w.heap.size (by simp)).trans (alloc1 w _)
      have hbw1 : Below w.heap.size w w1 := ((Below.refl _ _).alloc (Nat.le_refl _) _).trans (hb1.mono (by simp))
      have hs1 : w.heap.size < w1.heap.size := lt_of_heap hZ1
      have hrb1 : rb < w1.heap.size := by omega
      have hcn := HCN.out
      have d0 : w1.cell? ⟨rb, 0, none⟩ = some (sv s) := (Lib.cell_of_heap hR1 _).trans rfl
      have d1 : w1.cell? ⟨rb, 1, none⟩ = some (.int .i64 left) := (Lib.cell_of_heap hR1 _).trans rfl
      have f1 : w1.frozen? ⟨rb, 1, none⟩ = false := Lib.frozen_of_heap hR1 1
      have hR2 : RdAt rb s (left - 1) (w1.setCell ⟨rb, 1, none⟩ (.int .i64 (left - 1))) := setCell_heap hR1
      have hZ2 : (w1.setCell ⟨rb, 1, none⟩ (.int .i64 (left - 1))).heap[w.heap.size]? = some (.cells #[.string ⟨#[]⟩, .slice none 0 0] 30 (0, 0)) := by rw [Below.heap_setCell _ _ _ _ (by simp; omega)]; exact hZ1
      have hK2 : Kp (fun y => y = rb) w (w1.setCell ⟨rb, 1, none⟩ (.int .i64 (left - 1))) := Kp.setCell (M := fun y => y = rb) (Kp.ofBelow hbw1) (fun _ => rfl) _
      have e0 : (w1.setCell ⟨rb, 1, none⟩ (.int .i64 (left - 1))).cell? ⟨rb, 0, none⟩ = some (sv s) := (Lib.cell_of_heap hR2 _).trans rfl
      have e1 : (w1.setCell ⟨rb, 1, none⟩ (.int .i64 (left - 1))).cell? ⟨rb, 1, none⟩ = some (.int .i64 (left - 1)) := (Lib.cell_of_heap hR2 _).trans rfl
      have g0 : (w1.setCell ⟨rb, 1, none⟩ (.int .i64 (left - 1))).frozen? ⟨rb, 0, none⟩ = false := Lib.frozen_of_heap hR2 0
      have z0 : (w1.setCell ⟨rb, 1, none⟩ (.int .i64 (left - 1))).cell? ⟨w.heap.size, 0, none⟩ = some (.string ⟨#[]⟩) := (Lib.cell_of_heap hZ2 _).trans rfl
      have z1 : (w1.setCell ⟨rb, 1, none⟩ (.int .i64 (left - 1))).cell? ⟨w.heap.size, 1, none⟩ = some (.slice none 0 0) := (Lib.cell_of_heap hZ2 _).trans rfl
      have y0 : (w1.setCell ⟨rb, 1, none⟩ (.int .i64 (left - 1))).frozen? ⟨w.heap.size, 0, none⟩ = false := Lib.frozen_of_heap hZ2 0
      have y1 : (w1.setCell ⟨rb, 1, none⟩ (.int .i64 (left - 1))).frozen? ⟨w.heap.size, 1, none⟩ = false := Lib.frozen_of_heap hZ2 1
      have hs2 : (w1.setCell ⟨rb, 1, none⟩ (.int .i64 (left - 1))).heap.size = w1.heap.size := by simp
      have HR2 := Lib.hid hR2
      have HZ2 := Lib.hid hZ2
      have HK2 := Lib.hid hK2
      clear hix hb1 hR1 hZ1 hbw1 hR2 hZ2 hK2 hs2
      have HZ2C0 : Hid (∀ x y : Value, (((w1.setCell ⟨rb, 1, none⟩ (.int .i64 (left - 1))).setCell ⟨w.heap.size, 0, none⟩ x).setCell ⟨w.heap.size, 1, none⟩ y).cell? ⟨w.heap.size, 0, none⟩ = some x) := Lib.hid fun x y => (Lib.cell_of_heap (setCell_heap (setCell_heap HZ2.out)) _).trans rfl
      have HZ2C1 : Hid (∀ x y : Value, (((w1.setCell ⟨rb, 1, none⟩ (.int .i64 (left - 1))).setCell ⟨w.heap.size, 0, none⟩ x).setCell ⟨w.heap.size, 1, none⟩ y).cell? ⟨w.heap.size, 1, none⟩ = some y) := Lib.hid fun x y => (Lib.cell_of_heap (setCell_heap (setCell_heap HZ2.out)) _).trans rfl
      go_wp2
      refine bodyPost_ret (v := .tuple #[.agg #[.string ⟨#[]⟩, .slice none 0 0], .bool false]) (by simp [results, Tryd.results30, go_sem, HZ2C0.out, HZ2C1.out]) rfl ?_
      rw [rd_none HNM.out]
      exact ⟨[], (none, 0, 0), rfl, Kp.setCell (M := fun y => y = rb) (Kp.setCell (M := fun y => y = rb) HK2.out (fun h => by omega) _) (fun h => by omega) _⟩
  · have hk1 : 0 < k := by rw [HK.out]; exact List.length_pos_iff.2 hnm
    have hk0 : ((k : Int) == 0) = false := by simp; omega
    have hl1 : decide (left - 1 < 0) = false := by simp; omega
    have HNM := Lib.hid hnm
    clear hnm
    rcases hrs : rs s with _ | ⟨c, r⟩
    · have HRS := Lib.hid hrs
      clear hrs
      go_enter Tryd.func30, Tryd.ntmps30
      go_wp2_with fail
      refine HIX.out.mono ?_
      intro e w1 hix
      obtain ⟨rfl, hb1⟩ := idx_end hix HRS.out
      have hsk : (bs s).size = k := by rw [bs_size]; have h0 : (rs s).length = 0 := by (rw [HRS.out]; rfl)
                                       omega
      have hcr := HCR.out
      rw [hsk, HRS.out] at hcr
      have hR1 : RdAt rb s left w1 := (hb1.block _ (by simp; omega)).trans HW0.out
      have hZ1 := (hb1.block w.heap.size (by simp)).trans (alloc1 w _)
      have hbw1 : Below w.heap.size w w1 := ((Below.refl _ _).alloc (Nat.le_refl _) _).trans (hb1.mono (by simp))
      have hs1 : w.heap.size < w1.heap.size := lt_of_heap hZ1
      have hrb1 : rb < w1.heap.size := by omega
      have hcn := HCN.out
      have d0 : w1.cell? ⟨rb, 0, none⟩ = some (sv s) := (Lib.cell_of_heap hR1 _).trans rfl
      have d1 : w1.cell? ⟨rb, 1, none⟩ = some (.int .i64 left) := (Lib.cell_of_heap hR1 _).trans rfl
      have f1 : w1.frozen? ⟨rb, 1, none⟩ = false := Lib.frozen_of_heap hR1 1
      have hR2 : RdAt rb s (left - 1) (w1.setCell ⟨rb, 1, none⟩ (.int .i64 (left - 1))) := setCell_heap hR1
      have hZ2 : (w1.setCell ⟨rb, 1, none⟩ (.int .i64 (left - 1))).heap[w.heap.size]? = some (.cells #[.string ⟨#[]⟩, .slice none 0 0] 30 (0, 0)) := by rw [Below.heap_setCell _ _ _ _ (by simp; omega)]; exact hZ1
      have hK2 : Kp (fun y => y = rb) w (w1.setCell ⟨rb, 1, none⟩ (.int .i64 (left - 1))) := Kp.setCell (M := fun y => y = rb) (Kp.ofBelow hbw1) (fun _ => rfl) _
      have e0 : (w1.setCell ⟨rb, 1, none⟩ (.int .i64 (left - 1))).cell? ⟨rb, 0, none⟩ = some (sv s) := (Lib.cell_of_heap hR2 _).trans rfl
      have e1 : (w1.setCell ⟨rb, 1, none⟩ (.int .i64 (left - 1))).cell? ⟨rb, 1, none⟩ = some (.int .i64 (left - 1)) := (Lib.cell_of_heap hR2 _).trans rfl
      have g0 : (w1.setCell ⟨rb, 1, none⟩ (.int .i64 (left - 1))).frozen? ⟨rb, 0, none⟩ = false := Lib.frozen_of_heap hR2 0
      have z0 : (w1.setCell ⟨rb, 1, none⟩ (.int .i64 (left - 1))).cell? ⟨w.heap.size, 0, none⟩ = some (.string ⟨#[]⟩) := (Lib.cell_of_heap hZ2 _).trans rfl
      have z1 : (w1.setCell ⟨rb, 1, none⟩ (.int .i64 (left - 1))).cell? ⟨w.heap.size, 1, none⟩ = some (.slice none 0 0) := (Lib.cell_of_heap hZ2 _).trans rfl
      have y0 : (w1.setCell ⟨rb, 1, none⟩ (.int .i64 (left - 1))).frozen? ⟨w.heap.size, 0, none⟩ = false := Lib.frozen_of_heap hZ2 0
      have y1 : (w1.setCell ⟨rb, 1, none⟩ (.int .i64 (left - 1))).frozen? ⟨w.heap.size, 1, none⟩ = false := Lib.frozen_of_heap hZ2 1
      have hs2 : (w1.setCell ⟨rb, 1, none⟩ (.int .i64 (left - 1))).heap.size = w1.heap.size := by simp
      have HR2 := Lib.hid hR2
      have HZ2 := Lib.hid hZ2
      have HK2 := Lib.hid hK2
      clear hix hb1 hR1 hZ1 hbw1 hR2 hZ2 hK2 hs2
      go_wp2_with fail
      have hx : ∃ w3 : World, w3 = (((w1.setCell ⟨rb, 1, none⟩ (.int .i64 (left - 1))).setCell ⟨rb, 0, none⟩ (.string ByteArray.empty)).alloc (.cells #[.string (bs (nm s)), .slice none 0 0] 30)) := ⟨_, rfl⟩
      obtain ⟨w3, hw3⟩ := hx
      have hB : Begun rb s left w1.heap.size w w3 := by
        have hs3 : ((w1.setCell ⟨rb, 1, none⟩ (.int .i64 (left - 1))).setCell ⟨rb, 0, none⟩ (.string ByteArray.empty)).heap.size = w1.heap.size := by simp
        rw [hw3]
        refine ⟨(heap_alloc_old _ _ (by rw [hs3]; exact hrb1)).trans ?_, (heap_alloc_old _ _ (by rw [hs3]; exact hs1)).trans ?_, ?_, ((Kp.setCell (M := fun y => y = rb) HK2.out (fun _ => rfl) _).alloc _), hs1⟩
        · rw [HRS.out]
          exact setCell_heap HR2.out
        · rw [Below.heap_setCell _ _ _ _ (by simp; omega)]
          exact HZ2.out
        · have := alloc1 ((w1.setCell ⟨rb, 1, none⟩ (.int .i64 (left - 1))).setCell ⟨rb, 0, none⟩ (.string ByteArray.empty)) (.cells #[.string (bs (nm s)), .slice none 0 0] 30)
          rw [hs3] at this
          exact this
      rw [← hw3]
      clear hw3 d0 d1 f1 e0 e1 g0 z0 z1 y0 y1 HR2 HZ2 HK2 hcn hcr
      have HB := Lib.hid hB
      have rb0 : rb ≠ w.heap.size := by omega
      have q0 : w3.cell? ⟨w1.heap.size, 0, none⟩ = some (sv (nm s)) := (Lib.cell_of_heap hB.out _).trans rfl
      have q1 : w3.cell? ⟨w1.heap.size, 1, none⟩ = some (.slice none 0 0) := (Lib.cell_of_heap hB.out _).trans rfl
      have z0 : w3.cell? ⟨w.heap.size, 0, none⟩ = some (.string ⟨#[]⟩) := (Lib.cell_of_heap hB.zero _).trans rfl
      have z1 : w3.cell? ⟨w.heap.size, 1, none⟩ = some (.slice none 0 0) := (Lib.cell_of_heap hB.zero _).trans rfl
      have y0 : w3.frozen? ⟨w.heap.size, 0, none⟩ = false := Lib.frozen_of_heap hB.zero 0
      have y1 : w3.frozen? ⟨w.heap.size, 1, none⟩ = false := Lib.frozen_of_heap hB.zero 1
      clear hB
      refine (mark_no rb 60 60 (rs s) (left - 1) _ rfl (by rw [HRS.out]; simp) HB.out.rd).mono ?_
      rintro e w4 ⟨rfl, rfl⟩
      have C0 : Hid (∀ x y : Value, ((w3.setCell ⟨w.heap.size, 0, none⟩ x).setCell ⟨w.heap.size, 1, none⟩ y).cell? ⟨w.heap.size, 0, none⟩ = some x) := Lib.hid fun x y => (Lib.cell_of_heap (setCell_heap (setCell_heap HB.out.zero)) _).trans rfl
      have C1 : Hid (∀ x y : Value, ((w3.setCell ⟨w.heap.size, 0, none⟩ x).setCell ⟨w.heap.size, 1, none⟩ y).cell? ⟨w.heap.size, 1, none⟩ = some y) := Lib.hid fun x y => (Lib.cell_of_heap (setCell_heap (setCell_heap HB.out.zero)) _).trans rfl
      go_wp2
      refine bodyPost_ret (v := .tuple #[.agg #[sv (nm s), .slice none 0 0], .bool true]) (by simp [results, Tryd.results30, go_sem, C0.out, C1.out]) rfl ?_
      rw [rd_end HNM.out HRS.out]
      refine ⟨_, _, left - 1, rfl, wide_leaf _ _ _ (by have := HK.out; omega), ?_, ?_, by omega, (Kp.setCell (M := fun y => y = rb) (Kp.setCell (M := fun y => y = rb) HB.out.kp (fun h => by omega) _) (fun h => by omega) _)⟩
      · have h := HB.out.rd
        rw [HRS.out] at h
        unfold RdAt at h ⊢
        rw [Below.heap_setCell _ _ _ _ (by simpa using rb0), Below.heap_setCell _ _ _ _ (by simpa using rb0)]
        exact h
      · rw [HRS.out] at hlen
        simp at hlen ⊢
        omega
    · by_cases hc : c = 60
      · subst hc
        have HRS := Lib.hid hrs
        clear hrs
        go_enter Tryd.func30, Tryd.ntmps30
        go_wp2_with fail
        refine HIX.out.mono ?_
        intro e w1 hix
        obtain ⟨rfl, hb1⟩ := idx_mid hix HK.out (by rw [HRS.out]; simp)
        have hsk : k ≤ (bs s).size := by rw [bs_size]; omega
        have hcr := HCR.out
        rw [HRS.out] at hcr
        have hR1 : RdAt rb s left w1 := (hb1.block _ (by simp; omega)).trans HW0.out
        have hZ1 := (hb1.block w.heap.size (by simp)).trans (alloc1 w _)
        have hbw1 : Below w.heap.size w w1 := ((Below.refl _ _).alloc (Nat.le_refl _) _).trans (hb1.mono (by simp))
        have hs1 : w.heap.size < w1.heap.size := lt_of_heap hZ1
        have hrb1 : rb < w1.heap.size := by omega
        have hcn := HCN.out
        have d0 : w1.cell? ⟨rb, 0, none⟩ = some (sv s) := (Lib.cell_of_heap hR1 _).trans rfl
        have d1 : w1.cell? ⟨rb, 1, none⟩ = some (.int .i64 left) := (Lib.cell_of_heap hR1 _).trans rfl
        have f1 : w1.frozen? ⟨rb, 1, none⟩ = false := Lib.frozen_of_heap hR1 1
        have hR2 : RdAt rb s (left - 1) (w1.setCell ⟨rb, 1, none⟩ (.int .i64 (left - 1))) := setCell_heap hR1
        have hZ2 : (w1.setCell ⟨rb, 1, none⟩ (.int .i64 (left - 1))).heap[w.heap.size]? = some (.cells #[.string ⟨#[]⟩, .slice none 0 0] 30 (0, 0)) := by rw [Below.heap_setCell _ _ _ _ (by simp; omega)]; exact hZ1
        have hK2 : Kp (fun y => y = rb) w (w1.setCell ⟨rb, 1, none⟩ (.int .i64 (left - 1))) := Kp.setCell (M := fun y => y = rb) (Kp.ofBelow hbw1) (fun _ => rfl) _
        have e0 : (w1.setCell ⟨rb, 1, none⟩ (.int .i64 (left - 1))).cell? ⟨rb, 0, none⟩ = some (sv s) := (Lib.cell_of_heap hR2 _).trans rfl
        have e1 : (w1.setCell ⟨rb, 1, none⟩ (.int .i64 (left - 1))).cell? ⟨rb, 1, none⟩ = some (.int .i64 (left - 1)) := (Lib.cell_of_heap hR2 _).trans rfl
        have g0 : (w1.setCell ⟨rb, 1, none⟩ (.int .i64 (left - 1))).frozen? ⟨rb, 0, none⟩ = false := Lib.frozen_of_heap hR2 0
        have z0 : (w1.setCell ⟨rb, 1, none⟩ (.int .i64 (left - 1))).cell? ⟨w.heap.size, 0, none⟩ = some (.string ⟨#[]⟩) := (Lib.cell_of_heap hZ2 _).trans rfl
        have z1 : (w1.setCell ⟨rb, 1, none⟩ (.int .i64 (left - 1))).cell? ⟨w.heap.size, 1, none⟩ = some (.slice none 0 0) := (Lib.cell_of_heap hZ2 _).trans rfl
        have y0 : (w1.setCell ⟨rb, 1, none⟩ (.int .i64 (left - 1))).frozen? ⟨w.heap.size, 0, none⟩ = false := Lib.frozen_of_heap hZ2 0
        have y1 : (w1.setCell ⟨rb, 1, none⟩ (.int .i64 (left - 1))).frozen? ⟨w.heap.size, 1, none⟩ = false := Lib.frozen_of_heap hZ2 1
        have hs2 : (w1.setCell ⟨rb, 1, none⟩ (.int .i64 (left - 1))).heap.size = w1.heap.size := by simp
        have HR2 := Lib.hid hR2
        have HZ2 := Lib.hid hZ2
        have HK2 := Lib.hid hK2
        clear hix hb1 hR1 hZ1 hbw1 hR2 hZ2 hK2 hs2
        go_wp2_with fail
        have hx : ∃ w3 : World, w3 = (((w1.setCell ⟨rb, 1, none⟩ (.int .i64 (left - 1))).setCell ⟨rb, 0, none⟩ (.string (bs (60 :: r)))).alloc (.cells #[.string (bs (nm s)), .slice none 0 0] 30)) := ⟨_, rfl⟩
        obtain ⟨w3, hw3⟩ := hx
        have hB : Begun rb s left w1.heap.size w w3 := by
          have hs3 : ((w1.setCell ⟨rb, 1, none⟩ (.int .i64 (left - 1))).setCell ⟨rb, 0, none⟩ (.string (bs (60 :: r)))).heap.size = w1.heap.size := by simp
          rw [hw3]
          refine ⟨(heap_alloc_old _ _ (by rw [hs3]; exact hrb1)).trans ?_, (heap_alloc_old _ _ (by rw [hs3]; exact hs1)).trans ?_, ?_, ((Kp.setCell (M := fun y => y = rb) HK2.out (fun _ => rfl) _).alloc _), hs1⟩
          · rw [HRS.out]
            exact setCell_heap HR2.out
          · rw [Below.heap_setCell _ _ _ _ (by simp; omega)]
            exact HZ2.out
          · have := alloc1 ((w1.setCell ⟨rb, 1, none⟩ (.int .i64 (left - 1))).setCell ⟨rb, 0, none⟩ (.string (bs (60 :: r)))) (.cells #[.string (bs (nm s)), .slice none 0 0] 30)
            rw [hs3] at this
            exact this
        rw [← hw3]
        clear hw3 d0 d1 f1 e0 e1 g0 z0 z1 y0 y1 HR2 HZ2 HK2 hcn hcr
        have HB := Lib.hid hB
        have rb0 : rb ≠ w.heap.size := by omega
        have q0 : w3.cell? ⟨w1.heap.size, 0, none⟩ = some (sv (nm s)) := (Lib.cell_of_heap hB.out _).trans rfl
        have q1 : w3.cell? ⟨w1.heap.size, 1, none⟩ = some (.slice none 0 0) := (Lib.cell_of_heap hB.out _).trans rfl
        have z0 : w3.cell? ⟨w.heap.size, 0, none⟩ = some (.string ⟨#[]⟩) := (Lib.cell_of_heap hB.zero _).trans rfl
        have z1 : w3.cell? ⟨w.heap.size, 1, none⟩ = some (.slice none 0 0) := (Lib.cell_of_heap hB.zero _).trans rfl
        have y0 : w3.frozen? ⟨w.heap.size, 0, none⟩ = false := Lib.frozen_of_heap hB.zero 0
        have y1 : w3.frozen? ⟨w.heap.size, 1, none⟩ = false := Lib.frozen_of_heap hB.zero 1
        clear hB
        refine (mark_yes rb 60 60 r (left - 1) _ rfl (by have := HB.out.rd; rw [HRS.out] at this; exact this)).mono ?_
        rintro e w4 ⟨rfl, hR4, hK4⟩
        have hs3 : w1.heap.size < w3.heap.size := lt_of_heap HB.out.out
        have hrl : k + (r.length + 1) = s.length := by have := hlen; rw [HRS.out] at this; simpa using this
        have HR4 := Lib.hid hR4
        have HZ4 := Lib.hid (hK4.heap HB.out.zero (fun e => rb0 e.symm))
        have HO4 := Lib.hid (OutIs.fresh (hK4.heap HB.out.out (by omega)))
        have HK4 := Lib.hid (HB.out.kp.trans hK4 fun _ _ e => e)
        have hRD := rd_kids (n := n) HNM.out HRS.out
        have HRD := Lib.hid hRD
        clear hR4 hK4 hRD q0 q1 z0 z1 y0 y1
        go_wp2_with fail
        go_loopg [7] r.length (fun g _ wr => ∃ (m : Nat) (s' : List UInt8) (ts : List Ty) (lf : Int), s'.length = g ∧ 2 * s'.length + 2 ≤ m ∧ m ≤ n ∧ ts.length + s'.length ≤ r.length ∧ rdK n r = (rdK m s').map (fun p => (ts ++ p.1, p.2)) ∧ RdAt rb s' lf wr ∧ (s'.length : Int) ≤ lf ∧ lf ≤ left ∧ OutIs w1.heap.size (nm s) ts wr ∧ wr.heap[w.heap.size]? = some (.cells #[.string ⟨#[]⟩, .slice none 0 0] 30 (0, 0)) ∧ Kp (fun y => y = rb) w wr)
        case atStart => exact ⟨n, r, [], left - 1, rfl, by omega, Nat.le_refl _, by simp, by simp, HR4.out, by omega, by omega, HO4.out, HZ4.out, HK4.out⟩
        case round =>
          obtain ⟨m, s', ts, lf, hg, hm, hmn, htl, hrk, hRr, hlf, hlf2, hOr, hZr, hKr⟩ := hrel
          obtain ⟨m, rfl⟩ : ∃ m', m = m' + 1 := ⟨m - 1, by omega⟩
          have hsr := hKr.size
          have hzl := lt_of_heap hZr
          have HKI := Lib.hid (IH.out m (by omega) s' lf wr hRr (by omega) hlf (by omega) (by omega))
          have HRK := Lib.hid hrk
          have HOR := Lib.hid hOr
          have HZR := Lib.hid hZr
          have HKR := Lib.hid hKr
          have HRL := Lib.hid (rd_len m).1
          clear hrk hRr hOr hZr hKr
          go_wp2_with fail
          refine HKI.out.mono ?_
          intro e w5 hk5
          rcases hrm : rd m s' with _ | ⟨t, rest⟩
          · rw [hrm] at hk5
            obtain ⟨x, a, rfl, hK5⟩ := hk5
            have hnone : rd (n + 1) s = none := by rw [HRD.out, HRK.out, rdK_none hrm]; rfl
            have hs5 := hK5.size
            have hZ5 := hK5.heap HZR.out (fun e => rb0 e.symm)
            have z0 : w5.cell? ⟨w.heap.size, 0, none⟩ = some (.string ⟨#[]⟩) := (Lib.cell_of_heap hZ5 _).trans rfl
            have z1 : w5.cell? ⟨w.heap.size, 1, none⟩ = some (.slice none 0 0) := (Lib.cell_of_heap hZ5 _).trans rfl
            have y0 : w5.frozen? ⟨w.heap.size, 0, none⟩ = false := Lib.frozen_of_heap hZ5 0
            have y1 : w5.frozen? ⟨w.heap.size, 1, none⟩ = false := Lib.frozen_of_heap hZ5 1
            have hz5 := lt_of_heap hZ5
            have C0 : Hid (∀ x y : Value, ((w5.setCell ⟨w.heap.size, 0, none⟩ x).setCell ⟨w.heap.size, 1, none⟩ y).cell? ⟨w.heap.size, 0, none⟩ = some x) := Lib.hid fun x y => (Lib.cell_of_heap (setCell_heap (setCell_heap hZ5)) _).trans rfl
            have C1 : Hid (∀ x y : Value, ((w5.setCell ⟨w.heap.size, 0, none⟩ x).setCell ⟨w.heap.size, 1, none⟩ y).cell? ⟨w.heap.size, 1, none⟩ = some y) := Lib.hid fun x y => (Lib.cell_of_heap (setCell_heap (setCell_heap hZ5)) _).trans rfl
            have HNO := Lib.hid hnone
            have HK5 := Lib.hid (HKR.out.trans hK5 fun _ _ e => e)
            clear hrm hnone hK5 hZ5
            go_wp2
            refine bodyPost_ret (v := .tuple #[.agg #[.string ⟨#[]⟩, .slice none 0 0], .bool false]) (by simp [results, Tryd.results30, go_sem, C0.out, C1.out, hz5]) rfl ?_
            rw [HNO.out]
            exact ⟨[], (none, 0, 0), rfl, (Kp.setCell (M := fun y => y = rb) (Kp.setCell (M := fun y => y = rb) HK5.out (fun h => by omega) _) (fun h => by omega) _).alloc _⟩
          · rw [hrm] at hk5
            obtain ⟨u, v, lf5, rfl, hT5, hR5, hlf5, hlf6, hK5⟩ := hk5
            obtain ⟨un, va, rfl, rfl⟩ := hT5.shape
            have hlr := HRL.out s' t rest hrm
            have htp : 0 < t.size := by obtain ⟨_, _⟩ := t; simp only [Ty.size]; omega
            have hs5 := hK5.size
            have hZ5 := hK5.heap HZR.out (fun e => rb0 e.symm)
            have hz5 := lt_of_heap hZ5
            obtain ⟨q, hq⟩ : ∃ q, q = ts.length := ⟨_, rfl⟩
            obtain ⟨ov, vs, hO⟩ := HOR.out
            have hor := lt_of_heap hO.blk
            have hO5 := hO.kept (kp_grown hK5) (.inr ⟨rb, rfl, by omega⟩)
            have hown5 := hO5.own
            rw [← hq] at hown5
            have x0 : w5.cell? ⟨w1.heap.size, 0, none⟩ = some (sv (nm s)) := (Lib.cell_of_heap hO5.blk _).trans rfl
            have x1 : w5.cell? ⟨w1.heap.size, 1, none⟩ = some ov := (Lib.cell_of_heap hO5.blk _).trans rfl
            have xb := lt_of_heap hO5.blk
            obtain ⟨i0, hi, hz0, hz1, hz2⟩ := info_parts infoT
            have hb6 : Below w5.heap.size w5 ((w5.alloc (.cells #[sv un, .slice va.1 va.2.1 va.2.2] 30)).alloc (.cells #[sv un, .slice va.1 va.2.1 va.2.2] 30)) := ((Below.refl _ _).alloc (Nat.le_refl _) _).alloc (by simp) _
            have HQ := Lib.hid hq
            have HRM := Lib.hid hrm
            have HT5 := Lib.hid hT5
            have HR5 := Lib.hid (show RdAt rb rest lf5 _ from (hb6.block _ (by omega)).trans hR5)
            have HZ5 := Lib.hid ((hb6.block _ hz5).trans hZ5)
            have HK5 := Lib.hid ((HKR.out.trans hK5 fun _ _ e => e).below hb6)
            have HO6 := Lib.hid (hO5.kept (grownOfBelow hb6) (.inl rfl))
            have HOW := Lib.hid ((hown5.alloc (.cells #[sv un, .slice va.1 va.2.1 va.2.2] 30)).alloc (.cells #[sv un, .slice va.1 va.2.1 va.2.2] 30))
            have HOL := Lib.hid hO.own.lt
            clear hq hrm hT5 hR5 hZ5 hK5 hO hO5 hown5 hb6 HOR HZR
            go_wp2_with (at_builtin; refine wpList_append_lies _ rfl _ _ 28 rfl (w1.heap.size + 1) 30 i0 _ 2 40 Tryd.underlying28 hi hz0 hz1 hz2 rfl (by omega) ov q (flat2 vs) rfl HOW.out ⟨w5.heap.size + 1, 0, none⟩ 1 1 [sv un, .slice va.1 va.2.1 va.2.2] rfl rfl ?c1 ?c2 (by omega) ?c3 ?c4 ?c5 _ rfl ?_)
            case c1 => exact World.news_of_block (cs := #[sv un, .slice va.1 va.2.1 va.2.2]) (by have := alloc1 (w5.alloc (.cells #[sv un, .slice va.1 va.2.1 va.2.2] 30)) (.cells #[sv un, .slice va.1 va.2.1 va.2.2] 30); simpa using this)
            case c2 => simp [Value.oneCell']
            case c3 => have := HQ.out; unfold maxLen; omega
            case c4 => have := HQ.out; omega
            case c5 => simp; omega
            intro g cap w7 hown7 hgrow hat _
            have hgb := hown7.lt g rfl
            have hne : ∀ y, y ≤ w1.heap.size → some y ≠ ov.ownBlock := fun y hy e => by have := (HOW.out.lt _ e.symm).1; omega
            have hO7 := (hgrow.block w1.heap.size (by simp; omega) (hne _ (Nat.le_refl _))).trans HO6.out.blk
            have hR7 : RdAt rb rest lf5 (w7.setCell ⟨w1.heap.size, 1, none⟩ (.slice (some ⟨g, 0, none⟩) (q + 1) cap)) := by
              unfold RdAt
              rw [Below.heap_setCell _ _ _ _ (by simp; omega)]
              exact (hgrow.block rb (by simp; omega) (hne _ (by omega))).trans HR5.out
            have hZ7 : (w7.setCell ⟨w1.heap.size, 1, none⟩ (.slice (some ⟨g, 0, none⟩) (q + 1) cap)).heap[w.heap.size]? = some (.cells #[.string ⟨#[]⟩, .slice none 0 0] 30 (0, 0)) := by
              rw [Below.heap_setCell _ _ _ _ (by simp; omega)]
              exact (hgrow.block w.heap.size (by simp; omega) (hne _ (by omega))).trans HZ5.out
            have hK7 : Kp (fun y => y = rb) w (w7.setCell ⟨w1.heap.size, 1, none⟩ (.slice (some ⟨g, 0, none⟩) (q + 1) cap)) := Kp.setCell (M := fun y => y = rb) (HK5.out.grown hgrow fun r' hr hrl => absurd hr.symm (hne r' (by omega))) (fun h => by omega) _
            have hN : OutIs w1.heap.size (nm s) (ts ++ [t]) (w7.setCell ⟨w1.heap.size, 1, none⟩ (.slice (some ⟨g, 0, none⟩) (q + 1) cap)) := by
              have := HO6.out.push (t := t) (u := sv un) (v := .slice va.1 va.2.1 va.2.2) (w' := w7) (g := g) (cap := cap) ?_ (by rw [← HQ.out]; exact hown7) hgrow (hat.imp id fun e => by rw [e]; simp)
              · rw [← HQ.out] at this
                exact this
              · refine (HT5.out.keep (keptGrown (grownOfBelow (((Below.refl w5.heap.size w5).alloc (Nat.le_refl _) (.cells #[sv un, .slice va.1 va.2.1 va.2.2] 30)).alloc (by simp) (.cells #[sv un, .slice va.1 va.2.1 va.2.2] 30))) fun x hx => ⟨hx.2, by simp⟩)).more fun x hx => ⟨?_, ?_, ?_⟩
                · have := hx.1; omega
                · have := hx.2; simp; omega
                · intro e
                  have := (HOL.out x e.symm).2
                  have h5 := hx.1
                  omega
            have t1 : w7.cell? ⟨w1.heap.size, 1, none⟩ = some ov := (Lib.cell_of_heap hO7 _).trans rfl
            have t2 : w7.frozen? ⟨w1.heap.size, 1, none⟩ = false := Lib.frozen_of_heap hO7 1
            have HR7 := Lib.hid hR7
            have HZ7 := Lib.hid hZ7
            have HK7 := Lib.hid hK7
            have HN := Lib.hid hN
            have hsz7 := hK7.size
            clear hown7 hgrow hat hgb hne hO7 hR7 hZ7 hK7 hN HO6 HOW HOL HT5 HR5 HZ5 HK5 x0 x1
            go_wp2_with fail
            generalize w7.setCell ⟨w1.heap.size, 1, none⟩ (.slice (some ⟨g, 0, none⟩) (q + 1) cap) = w8 at *
            clear t1 t2
            have htz := htl
            by_cases h44 : rest.head? = some 44
            · obtain ⟨r', rfl⟩ : ∃ r', rest = 44 :: r' := by
                cases rest with
                | nil => simp at h44
                | cons c r' => simp at h44; exact ⟨r', by rw [h44]⟩
              have hrk2 : rdK n r = (rdK m r').map (fun p => ((ts ++ [t]) ++ p.1, p.2)) := by
                rw [HRK.out, rdK_more HRM.out, Option.map_map]
                congr 1
                funext p
                simp
              have HRK2 := Lib.hid hrk2
              have hl9 : r'.length + 1 + t.size ≤ s'.length := by simp only [List.length_cons] at hlr; omega
              have hlf9 : (r'.length : Int) + 1 ≤ lf5 := by simp only [List.length_cons] at hlf5; omega
              clear h44 hrk2
              refine (mark_yes rb 44 44 r' lf5 _ rfl HR7.out).mono ?_
              rintro e w9 ⟨rfl, hR9, hK9⟩
              have HR9 := Lib.hid hR9
              have HZ9 := Lib.hid (hK9.heap HZ7.out (fun e => rb0 e.symm))
              have HN9 : Hid (OutIs w1.heap.size (nm s) (ts ++ [t]) w9) := Lib.hid (by
                obtain ⟨ov9, vs9, hO9⟩ := HN.out
                exact ⟨ov9, vs9, hO9.kept (kp_grown hK9) (.inr ⟨rb, rfl, by omega⟩)⟩)
              have HK9 := Lib.hid (HK7.out.trans hK9 fun _ _ e => e)
              clear hR9 hK9 hlr hlf5
              go_wp2
              go_roundg r'.length
              case measure => omega
              case rel => exact ⟨m, r', ts ++ [t], lf5, rfl, by omega, by omega, by simp; omega, HRK2.out, HR9.out, by omega, by omega, HN9.out, HZ9.out, HK9.out⟩
            · have H44 := Lib.hid h44
              clear h44
              refine (mark_no rb 44 44 rest lf5 _ rfl H44.out HR7.out).mono ?_
              rintro e w9 ⟨rfl, rfl⟩
              obtain ⟨ov8, vs8, hO8⟩ := HN.out
              obtain ⟨av, rfl⟩ := hO8.shape
              have v0 : w8.cell? ⟨w1.heap.size, 0, none⟩ = some (sv (nm s)) := (Lib.cell_of_heap hO8.blk _).trans rfl
              have v1 : w8.cell? ⟨w1.heap.size, 1, none⟩ = some (.slice av.1 av.2.1 av.2.2) := (Lib.cell_of_heap hO8.blk _).trans rfl
              have HO8 := Lib.hid hO8
              clear hO8
              go_wp2_with fail
              by_cases h62 : rest.head? = some 62
              · obtain ⟨r', rfl⟩ : ∃ r', rest = 62 :: r' := by
                  cases rest with
                  | nil => simp at h62
                  | cons c r' => simp at h62; exact ⟨r', by rw [h62]⟩
                have hres : rd (n + 1) s = some (.mk (nm s) (ts ++ [t]), r') := by
                  rw [HRD.out, HRK.out, rdK_last HRM.out]
                  rfl
                have HRES := Lib.hid hres
                clear h62 hres
                refine wp_region_held' (fun w' => w'.cell? ⟨w1.heap.size, 0, none⟩ = some (sv (nm s)) ∧ w'.cell? ⟨w1.heap.size, 1, none⟩ = some (.slice av.1 av.2.1 av.2.2)) [] [0, 1] [2] [3, 4] (by kernel_rfl) (by kernel_rfl) ?s0a ?h0a
                case s0a => exact ⟨v0, v1⟩
                case h0a =>
                  simp only [opsAt, List.filterMap_cons, List.filterMap_nil, List.getElem?_toArray, List.getElem?_cons_succ, List.getElem?_cons_zero]
                  refine wpFloat_nil ?_
                  refine wpLoad_step ?v0a rfl (fun w' hS => ?y0a) ?k0a
                  case y0a =>
                    obtain ⟨h1, h2⟩ := hS
                    go_simp
                    rfl
                  case k0a =>
                  go_simp
                  refine wpLoad_step ?v1a rfl (fun w' hS => ?y1a) ?k1a
                  case y1a => go_simp; rfl
                  case k1a =>
                  go_simp
                  refine wpLoad_nil ?_
                  refine wpKeep_step rfl ?_
                  go_simp
                  refine (mark_yes rb 62 62 r' lf5 _ rfl (show RdAt rb (62 :: r') lf5 w8.drew from HR7.out)).mono ?_
                  rintro e w9 ⟨rfl, hR9, hK9'⟩
                  have hK9 : Kp (fun y => y = rb) w8 w9 := ((Kp.refl _ w8).drew).trans hK9' fun _ _ e => e
                  clear hK9'
                  have hO9 := HO8.out.kept (kp_grown hK9) (.inr ⟨rb, rfl, by omega⟩)
                  have hZ9 := hK9.heap HZ7.out (fun e => rb0 e.symm)
                  have hzl9 := lt_of_heap hZ9
                  have y9 : w9.cell? ⟨w1.heap.size, 0, none⟩ = some (sv (nm s)) := (Lib.cell_of_heap hO9.blk _).trans rfl
                  have y10 : w9.cell? ⟨w1.heap.size, 1, none⟩ = some (.slice av.1 av.2.1 av.2.2) := (Lib.cell_of_heap hO9.blk _).trans rfl
                  have z0 : w9.cell? ⟨w.heap.size, 0, none⟩ = some (.string ⟨#[]⟩) := (Lib.cell_of_heap hZ9 _).trans rfl
                  have z1 : w9.cell? ⟨w.heap.size, 1, none⟩ = some (.slice none 0 0) := (Lib.cell_of_heap hZ9 _).trans rfl
                  have f0 : w9.frozen? ⟨w.heap.size, 0, none⟩ = false := Lib.frozen_of_heap hZ9 0
                  have f1 : w9.frozen? ⟨w.heap.size, 1, none⟩ = false := Lib.frozen_of_heap hZ9 1
                  have C0 : Hid (∀ x y : Value, ((w9.setCell ⟨w.heap.size, 0, none⟩ x).setCell ⟨w.heap.size, 1, none⟩ y).cell? ⟨w.heap.size, 0, none⟩ = some x) := Lib.hid fun x y => (Lib.cell_of_heap (setCell_heap (setCell_heap hZ9)) _).trans rfl
                  have C1 : Hid (∀ x y : Value, ((w9.setCell ⟨w.heap.size, 0, none⟩ x).setCell ⟨w.heap.size, 1, none⟩ y).cell? ⟨w.heap.size, 1, none⟩ = some y) := Lib.hid fun x y => (Lib.cell_of_heap (setCell_heap (setCell_heap hZ9)) _).trans rfl
                  have HTY := Lib.hid (hO9.done (by have := HK.out; omega) (by simp; omega))
                  have HR9 := Lib.hid hR9
                  have HK9 := Lib.hid (HK7.out.trans hK9 fun _ _ e => e)
                  clear hR9 hK9 hO9 hZ9
                  refine ⟨⟨y9, y10⟩, ?_⟩
                  refine wpKeep_nil ?_
                  go_wp2
                  refine NoPanic.normal ?_
                  go_wp2
                  refine bodyPost_ret (v := .tuple #[.agg #[sv (nm s), .slice av.1 av.2.1 av.2.2], .bool true]) (by simp [results, Tryd.results30, go_sem, C0.out, C1.out]) rfl ?_
                  rw [HRES.out]
                  refine ⟨_, _, lf5, rfl, (HTY.out.keep (Kept.trans (keptGrown (row := some w.heap.size) grownSet fun x hx => ⟨hx.2, fun e => by injection e; have := hx.1; omega⟩) (keptGrown (row := some w.heap.size) grownSet fun x hx => ⟨by rw [sizeSet]; exact hx.2, fun e => by injection e; have := hx.1; omega⟩))).more fun x hx => ⟨by have := hx.1; omega, by rw [sizeSet, sizeSet]; exact hx.2⟩, ?_, by simp only [List.length_cons] at hlf5; omega, by omega, (Kp.setCell (M := fun y => y = rb) (Kp.setCell (M := fun y => y = rb) HK9.out (fun h => by omega) _) (fun h => by omega) _)⟩
                  unfold RdAt
                  rw [Below.heap_setCell _ _ _ _ (by simpa using rb0), Below.heap_setCell _ _ _ _ (by simpa using rb0)]
                  exact HR9.out
              · have H62 := Lib.hid h62
                have hres : rd (n + 1) s = none := by
                  rw [HRD.out, HRK.out, rdK_bad HRM.out H44.out H62.out]
                  rfl
                have HRES := Lib.hid hres
                clear h62 hres
                refine wp_region_held' (fun w' => w'.cell? ⟨w1.heap.size, 0, none⟩ = some (sv (nm s)) ∧ w'.cell? ⟨w1.heap.size, 1, none⟩ = some (.slice av.1 av.2.1 av.2.2)) [] [0, 1] [2] [3, 4] (by kernel_rfl) (by kernel_rfl) ?s0b ?h0b
                case s0b => exact ⟨v0, v1⟩
                case h0b =>
                  simp only [opsAt, List.filterMap_cons, List.filterMap_nil, List.getElem?_toArray, List.getElem?_cons_succ, List.getElem?_cons_zero]
                  refine wpFloat_nil ?_
                  refine wpLoad_step ?v0b rfl (fun w' hS => ?y0b) ?k0b
                  case y0b =>
                    obtain ⟨h1, h2⟩ := hS
                    go_simp
                    rfl
                  case k0b =>
                  go_simp
                  refine wpLoad_step ?v1b rfl (fun w' hS => ?y1b) ?k1b
                  case y1b => go_simp; rfl
                  case k1b =>
                  go_simp
                  refine wpLoad_nil ?_
                  refine wpKeep_step rfl ?_
                  go_simp
                  refine (mark_no rb 62 62 rest lf5 _ rfl H62.out (show RdAt rb rest lf5 w8.drew from HR7.out)).mono ?_
                  rintro e w9 ⟨rfl, hw9⟩
                  have hZ9 : w9.heap[w.heap.size]? = some (.cells #[.string ⟨#[]⟩, .slice none 0 0] 30 (0, 0)) := by rw [← hw9]; exact HZ7.out
                  have hK9 : Kp (fun y => y = rb) w w9 := by rw [← hw9]; exact HK7.out.drew
                  have y9 : w9.cell? ⟨w1.heap.size, 0, none⟩ = some (sv (nm s)) := by rw [← hw9]; exact v0
                  have y10 : w9.cell? ⟨w1.heap.size, 1, none⟩ = some (.slice av.1 av.2.1 av.2.2) := by rw [← hw9]; exact v1
                  have hzl9 := lt_of_heap hZ9
                  have z0 : w9.cell? ⟨w.heap.size, 0, none⟩ = some (.string ⟨#[]⟩) := (Lib.cell_of_heap hZ9 _).trans rfl
                  have z1 : w9.cell? ⟨w.heap.size, 1, none⟩ = some (.slice none 0 0) := (Lib.cell_of_heap hZ9 _).trans rfl
                  have f0 : w9.frozen? ⟨w.heap.size, 0, none⟩ = false := Lib.frozen_of_heap hZ9 0
                  have f1 : w9.frozen? ⟨w.heap.size, 1, none⟩ = false := Lib.frozen_of_heap hZ9 1
                  have C0 : Hid (∀ x y : Value, ((w9.setCell ⟨w.heap.size, 0, none⟩ x).setCell ⟨w.heap.size, 1, none⟩ y).cell? ⟨w.heap.size, 0, none⟩ = some x) := Lib.hid fun x y => (Lib.cell_of_heap (setCell_heap (setCell_heap hZ9)) _).trans rfl
                  have C1 : Hid (∀ x y : Value, ((w9.setCell ⟨w.heap.size, 0, none⟩ x).setCell ⟨w.heap.size, 1, none⟩ y).cell? ⟨w.heap.size, 1, none⟩ = some y) := Lib.hid fun x y => (Lib.cell_of_heap (setCell_heap (setCell_heap hZ9)) _).trans rfl
                  have HK9 := Lib.hid hK9
                  clear hK9 hZ9 hw9
                  refine ⟨⟨y9, y10⟩, ?_⟩
                  refine wpKeep_nil ?_
                  go_wp2
                  refine NoPanic.normal ?_
                  go_wp2
                  refine bodyPost_ret (v := .tuple #[.agg #[sv (nm s), .slice av.1 av.2.1 av.2.2], .bool false]) (by simp [results, Tryd.results30, go_sem, C0.out, C1.out]) rfl ?_
                  rw [HRES.out]
                  exact ⟨nm s, av, rfl, (Kp.setCell (M := fun y => y = rb) (Kp.setCell (M := fun y => y = rb) HK9.out (fun h => by omega) _) (fun h => by omega) _)⟩
      · have HRS := Lib.hid hrs
        have HC := Lib.hid hc
        clear hrs hc
        go_enter Tryd.func30, Tryd.ntmps30
        go_wp2_with fail
        refine HIX.out.mono ?_
        intro e w1 hix
        obtain ⟨rfl, hb1⟩ := idx_mid hix HK.out (by rw [HRS.out]; simp)
        have hsk : k ≤ (bs s).size := by rw [bs_size]; omega
        have hcr := HCR.out
        rw [HRS.out] at hcr
        have hR1 : RdAt rb s left w1 := (hb1.block _ (by simp; omega)).trans HW0.out
        have hZ1 := (hb1.block w.heap.size (by simp)).trans (alloc1 w _)
        have hbw1 : Below w.heap.size w w1 := ((Below.refl _ _).alloc (Nat.le_refl _) _).trans (hb1.mono (by simp))
        have hs1 : w.heap.size < w1.heap.size := lt_of_heap hZ1
        have hrb1 : rb < w1.heap.size := by omega
        have hcn := HCN.out
        have d0 : w1.cell? ⟨rb, 0, none⟩ = some (sv s) := (Lib.cell_of_heap hR1 _).trans rfl
        have d1 : w1.cell? ⟨rb, 1, none⟩ = some (.int .i64 left) := (Lib.cell_of_heap hR1 _).trans rfl
        have f1 : w1.frozen? ⟨rb, 1, none⟩ = false := Lib.frozen_of_heap hR1 1
        have hR2 : RdAt rb s (left - 1) (w1.setCell ⟨rb, 1, none⟩ (.int .i64 (left - 1))) := setCell_heap hR1
        have hZ2 : (w1.setCell ⟨rb, 1, none⟩ (.int .i64 (left - 1))).heap[w.heap.size]? = some (.cells #[.string ⟨#[]⟩, .slice none 0 0] 30 (0, 0)) := by rw [Below.heap_setCell _ _ _ _ (by simp; omega)]; exact hZ1
        have hK2 : Kp (fun y => y = rb) w (w1.setCell ⟨rb, 1, none⟩ (.int .i64 (left - 1))) := Kp.setCell (M := fun y => y = rb) (Kp.ofBelow hbw1) (fun _ => rfl) _
        have e0 : (w1.setCell ⟨rb, 1, none⟩ (.int .i64 (left - 1))).cell? ⟨rb, 0, none⟩ = some (sv s) := (Lib.cell_of_heap hR2 _).trans rfl
        have e1 : (w1.setCell ⟨rb, 1, none⟩ (.int .i64 (left - 1))).cell? ⟨rb, 1, none⟩ = some (.int .i64 (left - 1)) := (Lib.cell_of_heap hR2 _).trans rfl
        have g0 : (w1.setCell ⟨rb, 1, none⟩ (.int .i64 (left - 1))).frozen? ⟨rb, 0, none⟩ = false := Lib.frozen_of_heap hR2 0
        have z0 : (w1.setCell ⟨rb, 1, none⟩ (.int .i64 (left - 1))).cell? ⟨w.heap.size, 0, none⟩ = some (.string ⟨#[]⟩) := (Lib.cell_of_heap hZ2 _).trans rfl
        have z1 : (w1.setCell ⟨rb, 1, none⟩ (.int .i64 (left - 1))).cell? ⟨w.heap.size, 1, none⟩ = some (.slice none 0 0) := (Lib.cell_of_heap hZ2 _).trans rfl
        have y0 : (w1.setCell ⟨rb, 1, none⟩ (.int .i64 (left - 1))).frozen? ⟨w.heap.size, 0, none⟩ = false := Lib.frozen_of_heap hZ2 0
        have y1 : (w1.setCell ⟨rb, 1, none⟩ (.int .i64 (left - 1))).frozen? ⟨w.heap.size, 1, none⟩ = false := Lib.frozen_of_heap hZ2 1
        have hs2 : (w1.setCell ⟨rb, 1, none⟩ (.int .i64 (left - 1))).heap.size = w1.heap.size := by simp
        have HR2 := Lib.hid hR2
        have HZ2 := Lib.hid hZ2
        have HK2 := Lib.hid hK2
        clear hix hb1 hR1 hZ1 hbw1 hR2 hZ2 hK2 hs2
        go_wp2_with fail
        have hx : ∃ w3 : World, w3 = (((w1.setCell ⟨rb, 1, none⟩ (.int .i64 (left - 1))).setCell ⟨rb, 0, none⟩ (.string (bs (c :: r)))).alloc (.cells #[.string (bs (nm s)), .slice none 0 0] 30)) := ⟨_, rfl⟩
        obtain ⟨w3, hw3⟩ := hx
        have hB : Begun rb s left w1.heap.size w w3 := by
          have hs3 : ((w1.setCell ⟨rb, 1, none⟩ (.int .i64 (left - 1))).setCell ⟨rb, 0, none⟩ (.string (bs (c :: r)))).heap.size = w1.heap.size := by simp
          rw [hw3]
          refine ⟨(heap_alloc_old _ _ (by rw [hs3]; exact hrb1)).trans ?_, (heap_alloc_old _ _ (by rw [hs3]; exact hs1)).trans ?_, ?_, ((Kp.setCell (M := fun y => y = rb) HK2.out (fun _ => rfl) _).alloc _), hs1⟩
          · rw [HRS.out]
            exact setCell_heap HR2.out
          · rw [Below.heap_setCell _ _ _ _ (by simp; omega)]
            exact HZ2.out
          · have := alloc1 ((w1.setCell ⟨rb, 1, none⟩ (.int .i64 (left - 1))).setCell ⟨rb, 0, none⟩ (.string (bs (c :: r)))) (.cells #[.string (bs (nm s)), .slice none 0 0] 30)
            rw [hs3] at this
            exact this
        rw [← hw3]
        clear hw3 d0 d1 f1 e0 e1 g0 z0 z1 y0 y1 HR2 HZ2 HK2 hcn hcr
        have HB := Lib.hid hB
        have rb0 : rb ≠ w.heap.size := by omega
        have q0 : w3.cell? ⟨w1.heap.size, 0, none⟩ = some (sv (nm s)) := (Lib.cell_of_heap hB.out _).trans rfl
        have q1 : w3.cell? ⟨w1.heap.size, 1, none⟩ = some (.slice none 0 0) := (Lib.cell_of_heap hB.out _).trans rfl
        have z0 : w3.cell? ⟨w.heap.size, 0, none⟩ = some (.string ⟨#[]⟩) := (Lib.cell_of_heap hB.zero _).trans rfl
        have z1 : w3.cell? ⟨w.heap.size, 1, none⟩ = some (.slice none 0 0) := (Lib.cell_of_heap hB.zero _).trans rfl
        have y0 : w3.frozen? ⟨w.heap.size, 0, none⟩ = false := Lib.frozen_of_heap hB.zero 0
        have y1 : w3.frozen? ⟨w.heap.size, 1, none⟩ = false := Lib.frozen_of_heap hB.zero 1
        clear hB
        refine (mark_no rb 60 60 (rs s) (left - 1) _ rfl (by rw [HRS.out]; simpa using HC.out) HB.out.rd).mono ?_
        rintro e w4 ⟨rfl, rfl⟩
        have C0 : Hid (∀ x y : Value, ((w3.setCell ⟨w.heap.size, 0, none⟩ x).setCell ⟨w.heap.size, 1, none⟩ y).cell? ⟨w.heap.size, 0, none⟩ = some x) := Lib.hid fun x y => (Lib.cell_of_heap (setCell_heap (setCell_heap HB.out.zero)) _).trans rfl
        have C1 : Hid (∀ x y : Value, ((w3.setCell ⟨w.heap.size, 0, none⟩ x).setCell ⟨w.heap.size, 1, none⟩ y).cell? ⟨w.heap.size, 1, none⟩ = some y) := Lib.hid fun x y => (Lib.cell_of_heap (setCell_heap (setCell_heap HB.out.zero)) _).trans rfl
        go_wp2
        refine bodyPost_ret (v := .tuple #[.agg #[sv (nm s), .slice none 0 0], .bool true]) (by simp [results, Tryd.results30, go_sem, C0.out, C1.out]) rfl ?_
        rw [rd_leaf HNM.out HRS.out HC.out]
        refine ⟨_, _, left - 1, rfl, wide_leaf _ _ _ (by have := HK.out; omega), ?_, ?_, by omega, (Kp.setCell (M := fun y => y = rb) (Kp.setCell (M := fun y => y = rb) HB.out.kp (fun h => by omega) _) (fun h => by omega) _)⟩
        · have h := HB.out.rd
          rw [HRS.out] at h
          unfold RdAt at h ⊢
          rw [Below.heap_setCell _ _ _ _ (by simpa using rb0), Below.heap_setCell _ _ _ _ (by simpa using rb0)]
          exact h
        · rw [HRS.out] at hlen
          simp at hlen ⊢
          omega
end Go.Proofs.YtndhglcdkegigaaDoor
