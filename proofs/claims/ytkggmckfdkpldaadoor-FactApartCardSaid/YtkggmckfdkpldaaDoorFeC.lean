/-
  The walks of Mod, of dice, and of Digits at one digit.
  Conditions: the dice lie in memory; those of each theorem.
  The walks of dice whose slice of numbers is named. Conditions: the dice lie in memory; those of each theorem.
-/
import Derived.Test.YtkggmckfdkpldaaDoorBm
import Derived.Deep.QuietTactic
import Derived.BigQuiet
import Derived.Tactics2
import Derived.Deep.CutBlock
import Derived.Deep.DeepCutAuto
import Derived.Deep.LoopGhost
namespace Go.Proofs.YtkggmckfdkpldaaDoor
section
open Go.RowKit
theorem tmod_lt {n m : Int} (hm : 1 ≤ m) (h : n.tmod m < 0) : n.tmod m + m = n % m := by
  have h1 := Int.tmod_eq_emod (a := n) (b := m)
  have h2 : 0 ≤ n % m := Int.emod_nonneg _ (by omega)
  have h3 : n % m < m := Int.emod_lt_of_pos _ (by omega)
  split at h1
  · omega
  · have : (m.natAbs : Int) = m := by omega
    omega
theorem tmod_ge {n m : Int} (hm : 1 ≤ m) (h : 0 ≤ n.tmod m) : n.tmod m = n % m := by
  have h1 := Int.tmod_eq_emod (a := n) (b := m)
  have h3 : n % m < m := Int.emod_lt_of_pos _ (by omega)
  split at h1
  · omega
  · have : (m.natAbs : Int) = m := by omega
    omega

set_option maxHeartbeats 400000 in
set_option maxRecDepth 100000 in
theorem mod_any (n m : Int) (w : World) (hn0 : -9223372036854775808 ≤ n) (hn1 : n ≤ 9223372036854775807) (hm0 : 1 ≤ m) (hm1 : m ≤ 9223372036854775807) :
    Calls Tryd.prog 37 #[.int .i64 n, .int .i64 m] w fun e w' => e = .returned (.int .i64 (n % m)) ∧ w = w' := by
  by_cases h0 : 0 ≤ n
  · have h2 : 0 ≤ n % m := Int.emod_nonneg _ (by omega)
    go_enter Tryd.func37, Tryd.ntmps37
    go_wp2
    go_ret
    exact ⟨rfl, rfl⟩
  · go_enter Tryd.func37, Tryd.ntmps37
    go_wp2
    · have hlt : n.tmod m < 0 := by assumption
      have h2 := tmod_lt hm0 hlt
      have h3 : n % m < m := Int.emod_lt_of_pos _ (by omega)
      have h4 : 0 ≤ n % m := Int.emod_nonneg _ (by omega)
      go_ret
      exact ⟨ret_int (by rw [IntWalk.wrap64_in _ ⟨by omega, by omega⟩]; exact h2), rfl⟩
    · have hge : 0 ≤ n.tmod m := by assumption
      have h2 := tmod_ge hm0 hge
      go_ret
      exact ⟨ret_int h2, rfl⟩

/-- Dice at block dd: the numbers lie before it. -/
structure DiceAt (w : World) (dd : Nat) (xs : List Int) : Prop where
  blk : ∃ (TA : Option Addr) (c k : Nat), w.heap[dd]? = some (.cells #[.slice TA xs.length c, .int .i64 (k : Int)] 55 (0, 0)) ∧ k ≤ xs.length ∧ Row w (Lt dd) TA (xs.map (Value.int .i64))
  few : xs.length ≤ 400
  fit : ∀ x ∈ xs, -9223372036854775808 ≤ x ∧ x ≤ 9223372036854775807

/-- A call that throws dice: all else is as it was. -/
def Thrown (dd : Nat) (xs : List Int) (w w' : World) : Prop := DiceAt w' dd xs ∧ Kp (fun y => y = dd) w w'

theorem DiceAt.keep {w w' : World} {dd : Nat} {xs : List Int} {M : Nat → Prop} (h : DiceAt w dd xs) (hk : Kp M w w') (hM : ∀ y, M y → dd < y) : DiceAt w' dd xs := by
  obtain ⟨TA, c, k, h1, h2, h3⟩ := h.blk
  have hlt := lt_of_heap h1
  exact ⟨⟨TA, c, k, hk.heap h1 (fun e => by have := hM _ e; omega), h2, h3.keep (hk.kept fun b hb => ⟨by unfold Lt at hb; omega, fun e => by have := hM _ e; unfold Lt at hb; omega⟩)⟩, h.few, h.fit⟩
theorem DiceAt.lt {w : World} {dd : Nat} {xs : List Int} (h : DiceAt w dd xs) : dd < w.heap.size := by
  obtain ⟨TA, c, k, h1, _⟩ := h.blk
  exact lt_of_heap h1
theorem DiceAt.below {w w' : World} {dd : Nat} {xs : List Int} (h : DiceAt w dd xs) (hb : Below w.heap.size w w') : DiceAt w' dd xs := h.keep (M := fun _ => False) (Kp.ofBelow hb) (fun _ e => e.elim)
theorem Kp.one {dd : Nat} {w w1 w2 : World} (h : Kp (fun y => y = dd) w w1) (h1 : Kp (fun y => y = dd) w1 w2) : Kp (fun y => y = dd) w w2 := h.trans h1 fun _ _ e => e

def DiceRes (n dd : Nat) (xs : List Int) (w : World) (e : Ending) (w' : World) : Prop := ∃ k : Nat, k < n ∧ e = .returned (.int .i64 (k : Int)) ∧ Thrown dd xs w w'

set_option maxHeartbeats 2000000 in
set_option maxRecDepth 100000 in
theorem next_wide (n dd : Nat) (xs : List Int) (w : World) (hn : 1 ≤ n) (hn2 : n ≤ 1099511627776) (hd : DiceAt w dd xs) :
    Calls Tryd.prog 14 #[.pointer (some ⟨dd, 0, none⟩), .int .i64 (n : Int)] w (DiceRes n dd xs w) := by
  obtain ⟨TA, c, k, h1, h2, h3⟩ := hd.blk
  have hfew := hd.few
  obtain ⟨m, hm⟩ : ∃ m, m = xs.length := ⟨_, rfl⟩
  rw [← hm] at h1 h2 hfew
  have c0 : w.cell? ⟨dd, 0, none⟩ = some (.slice TA m c) := (Lib.cell_of_heap h1 _).trans rfl
  have c1 : w.cell? ⟨dd, 1, none⟩ = some (.int .i64 (k : Int)) := (Lib.cell_of_heap h1 _).trans rfl
  have f1 : w.frozen? ⟨dd, 1, none⟩ = false := Lib.frozen_of_heap h1 1
  have HM := Lib.hid hm
  have HD := Lib.hid hd
  have H1 := Lib.hid h1
  clear hm hd h1
  by_cases hlt : k < m
  · have hkx : k < xs.length := by rw [← HM.out]; exact hlt
    have hx : (xs.map (Value.int .i64))[k]? = some (.int .i64 xs[k]) := by rw [List.getElem?_map, List.getElem?_eq_getElem hkx]; rfl
    obtain ⟨ad, rfl, hS, e0⟩ := h3.at_ hx
    have hfit := HD.out.fit _ (List.getElem_mem hkx)
    have hg1 : decide ((k : Int) ≥ (m : Int)) = false := by simp; omega
    go_enter Tryd.func14, Tryd.ntmps14
    go_wp2_with fail
    go_quiet (fail)
    go_wp2_with fail
    have hk1 : Kp (fun y => y = dd) w ((w.drewN nq).setCell ⟨dd, 1, none⟩ (.int .i64 (k + 1))) := Kp.setCell (M := fun y => y = dd) (Kp.ofBelow (belowDrewN (Below.refl _ _) _)) (fun _ => rfl) _
    have hb2 : ((w.drewN nq).setCell ⟨dd, 1, none⟩ (.int .i64 (k + 1))).heap[dd]? = some (.cells #[.slice (some ad) m c, .int .i64 (k + 1)] 55 (0, 0)) := setCell_heap (w := w.drewN nq) H1.out
    have hz : ∃ ws, ws = (w.drewN nq).setCell ⟨dd, 1, none⟩ (.int .i64 (k + 1)) := ⟨_, rfl⟩
    obtain ⟨ws, hws⟩ := hz
    rw [← hws] at hk1 hb2 ⊢
    have d0 : ws.cell? ⟨dd, 0, none⟩ = some (.slice (some ad) m c) := (Lib.cell_of_heap hb2 _).trans rfl
    have d1 : ws.cell? ⟨dd, 1, none⟩ = some (.int .i64 ((k : Int) + 1)) := (Lib.cell_of_heap hb2 _).trans rfl
    have hlow : Kept (Lt dd) w ws := hk1.kept fun b hb => ⟨by have := lt_of_heap H1.out; unfold Lt at hb; omega, by unfold Lt at hb; omega⟩
    have e1 : ws.cell? (ad.add k) = some (.int .i64 xs[k]) := (hlow _ (by rw [blkAdd]; exact hS)).trans e0
    have hdice : DiceAt ws dd xs := by
      obtain ⟨TA, c', k', h1', h2', h3'⟩ := HD.out.blk
      rw [H1.out] at h1'
      injection h1' with h1'
      injection h1' with h1' _ _
      simp at h1'
      obtain ⟨⟨rfl, _, rfl⟩, _⟩ := h1'
      exact ⟨⟨_, c, k + 1, by rw [hb2, HM.out]; simp, by omega, h3'.keep hlow⟩, HD.out.few, HD.out.fit⟩
    have HDICE := Lib.hid hdice
    have HK1 := Lib.hid hk1
    clear hdice hk1 hb2 hws hlow c0 c1 f1 e0
    have hwr : IntKind.i64.wrap (k : Int) = (k : Int) := by
      rw [IntKind.wrap_i64]; omega
    have hik : (0 : Int) ≤ (k : Int) ∧ (k : Int) < (m : Int) := ⟨by omega, by omega⟩
    go_quiet ((go_at_call 37; refine Calls.quiet_of_same ((mod_any _ _ _ hfit.1 hfit.2 (by omega) (by omega)).mono fun _ _ h => ⟨h.1, h.2.symm⟩)))
    go_wp2
    go_ret
    refine ⟨(xs[k] % (n : Int)).toNat, ?_, ret_int ?_, ?_⟩
    · have := Int.emod_lt_of_pos xs[k] (b := (n : Int)) (by omega)
      have := Int.emod_nonneg xs[k] (b := (n : Int)) (by omega)
      omega
    · have := Int.emod_nonneg xs[k] (b := (n : Int)) (by omega)
      omega
    · exact ⟨HDICE.out.below (belowDrewN (Below.refl _ _) _), HK1.out.below (belowDrewN (Below.refl _ _) _)⟩
  · obtain rfl : k = m := by omega
    have hg1 : decide ((k : Int) ≥ (k : Int)) = true := by simp
    go_enter Tryd.func14, Tryd.ntmps14
    go_wp2_with fail
    go_quiet (fail)
    go_wp2
    go_ret
    exact ⟨0, by omega, rfl, HD.out.below (belowDrewN (Below.refl _ _) _), Kp.ofBelow (belowDrewN (Below.refl _ _) _)⟩

theorem next_any (n dd : Nat) (xs : List Int) (w : World) (hn : 1 ≤ n) (hn2 : n ≤ 1000) (hd : DiceAt w dd xs) :
    Calls Tryd.prog 14 #[.pointer (some ⟨dd, 0, none⟩), .int .i64 (n : Int)] w (DiceRes n dd xs w) := next_wide n dd xs w hn (by omega) hd

def OfRes (ls : List (List UInt8)) (dd : Nat) (xs : List Int) (w : World) (e : Ending) (w' : World) : Prop := ∃ x ∈ ls, e = .returned (sv x) ∧ Thrown dd xs w w'

set_option maxHeartbeats 4000000 in
set_option maxRecDepth 100000 in
theorem of_any (ls : List (List UInt8)) (A : Option Addr) (c dd : Nat) (xs : List Int) (w : World) (hn : 1 ≤ ls.length) (hn2 : ls.length ≤ 1000) (hd : DiceAt w dd xs) (hA : Row w (fun y => y < w.heap.size ∧ y ≠ dd) A (ls.map sv)) :
    Calls Tryd.prog 24 #[.pointer (some ⟨dd, 0, none⟩), .slice A ls.length c] w (OfRes ls dd xs w) := by
  obtain ⟨n, hm⟩ : ∃ n, n = ls.length := ⟨_, rfl⟩
  rw [← hm] at hn hn2 ⊢
  have HM := Lib.hid hm
  have HN := Lib.hid (next_any n dd xs w hn hn2 hd)
  clear hm hd
  go_enter Tryd.func24, Tryd.ntmps24
  go_wp2_with fail
  refine HN.out.mono ?_
  rintro e w1 ⟨k, hk, rfl, hT, hK⟩
  have hkl : k < ls.length := by rw [← HM.out]; exact hk
  have hx : (ls.map sv)[k]? = some (sv ls[k]) := by rw [List.getElem?_map, List.getElem?_eq_getElem hkl]; rfl
  obtain ⟨ad, rfl, hS, e0⟩ := (hA.keep (hK.kept fun b hb => hb)).at_ hx
  have HT := Lib.hid hT
  have HK := Lib.hid hK
  have HX : Hid (ls[k] ∈ ls) := Lib.hid (List.getElem_mem hkl)
  clear hT hK hx
  go_wp2
  go_ret
  exact ⟨ls[k], HX.out, rfl, HT.out, HK.out⟩

set_option maxHeartbeats 4000000 in
set_option maxRecDepth 100000 in
theorem light_any (n : Nat) (A : Option Addr) (c : Nat) (w : World) : Calls Tryd.prog 5 #[.slice A n c] w fun e w' => e = .returned (.bool (decide (n ≤ 400))) ∧ w = w' := by
  go_enter Tryd.func5, Tryd.ntmps5
  go_wp2
  go_ret
  refine ⟨?_, rfl⟩
  congr 2
  simp
  omega

set_option maxHeartbeats 4000000 in
set_option maxRecDepth 100000 in
theorem roll_any (xs : List Int) (A : Option Addr) (c : Nat) (w : World) (hA : Row w (Lt w.heap.size) A (xs.map (Value.int .i64))) (hn : xs.length ≤ 400) (hf : ∀ x ∈ xs, -9223372036854775808 ≤ x ∧ x ≤ 9223372036854775807) :
    Calls Tryd.prog 7 #[.slice A xs.length c] w fun e w' => e = .returned (.pointer (some ⟨w.heap.size, 0, none⟩)) ∧ DiceAt w' w.heap.size xs ∧ Below w.heap.size w w' := by
  have hb : Below w.heap.size w (w.alloc (.cells #[.slice A xs.length c, .int .i64 ((0 : Nat) : Int)] 55)) := (Below.refl _ _).alloc (Nat.le_refl _) _
  have hD : DiceAt (w.alloc (.cells #[.slice A xs.length c, .int .i64 ((0 : Nat) : Int)] 55)) w.heap.size xs := ⟨⟨A, c, 0, alloc1 _ _, Nat.zero_le _, hA.keep (kept_below hb)⟩, hn, hf⟩
  have HD := Lib.hid hD
  have HB := Lib.hid hb
  clear hD hb hA hf
  generalize xs.length = n at *
  go_enter Tryd.func7, Tryd.ntmps7
  go_wp2
  go_ret
  exact ⟨rfl, HD.out, HB.out⟩

def OneRes (dd : Nat) (xs : List Int) (w : World) (e : Ending) (w' : World) : Prop := ∃ b : Bool, e = .returned (.bool b) ∧ Thrown dd xs w w'
set_option maxHeartbeats 4000000 in
set_option maxRecDepth 100000 in
theorem one_any (n dd : Nat) (xs : List Int) (w : World) (hn : 1 ≤ n) (hn2 : n ≤ 1000) (hd : DiceAt w dd xs) :
    Calls Tryd.prog 25 #[.pointer (some ⟨dd, 0, none⟩), .int .i64 (n : Int)] w (OneRes dd xs w) := by
  have HN := Lib.hid (next_any n dd xs w hn hn2 hd)
  clear hd
  go_enter Tryd.func25, Tryd.ntmps25
  go_wp2_with fail
  refine HN.out.mono ?_
  rintro e w1 ⟨k, hk, rfl, hT⟩
  have HT := Lib.hid hT
  clear hT
  go_wp2
  go_ret
  exact ⟨_, rfl, HT.out⟩
end

section
open Go.RowKit
variable {TA0 : Option Addr} {CQ0 : Nat}
/-- Dice at block dd: the numbers lie before it. -/
structure DiceOf (TA0 : Option Addr) (CQ0 : Nat) (w : World) (dd : Nat) (xs : List Int) : Prop where
  blk : ∃ (k : Nat), w.heap[dd]? = some (.cells #[.slice TA0 xs.length CQ0, .int .i64 (k : Int)] 55 (0, 0)) ∧ k ≤ xs.length ∧ Row w (Lt dd) TA0 (xs.map (Value.int .i64))
  few : xs.length ≤ 400
  fit : ∀ x ∈ xs, -9223372036854775808 ≤ x ∧ x ≤ 9223372036854775807

/-- A call that throws dice: all else is as it was. -/
def Threw (TA0 : Option Addr) (CQ0 : Nat) (dd : Nat) (xs : List Int) (w w' : World) : Prop := DiceOf TA0 CQ0 w' dd xs ∧ Kp (fun y => y = dd) w w'

theorem DiceOf.keep {w w' : World} {dd : Nat} {xs : List Int} {M : Nat → Prop} (h : DiceOf TA0 CQ0 w dd xs) (hk : Kp M w w') (hM : ∀ y, M y → dd < y) : DiceOf TA0 CQ0 w' dd xs := by
  obtain ⟨k, h1, h2, h3⟩ := h.blk
  have hlt := lt_of_heap h1
  exact ⟨⟨k, hk.heap h1 (fun e => by have := hM _ e; omega), h2, h3.keep (hk.kept fun b hb => ⟨by unfold Lt at hb; omega, fun e => by have := hM _ e; unfold Lt at hb; omega⟩)⟩, h.few, h.fit⟩
theorem DiceOf.lt {w : World} {dd : Nat} {xs : List Int} (h : DiceOf TA0 CQ0 w dd xs) : dd < w.heap.size := by
  obtain ⟨k, h1, _⟩ := h.blk
  exact lt_of_heap h1
theorem DiceOf.below {w w' : World} {dd : Nat} {xs : List Int} (h : DiceOf TA0 CQ0 w dd xs) (hb : Below w.heap.size w w') : DiceOf TA0 CQ0 w' dd xs := h.keep (M := fun _ => False) (Kp.ofBelow hb) (fun _ e => e.elim)

def DiceRec (TA0 : Option Addr) (CQ0 : Nat) (n dd : Nat) (xs : List Int) (w : World) (e : Ending) (w' : World) : Prop := ∃ k : Nat, k < n ∧ e = .returned (.int .i64 (k : Int)) ∧ Threw TA0 CQ0 dd xs w w'

set_option maxHeartbeats 2000000 in
set_option maxRecDepth 100000 in
theorem nextc_wide (n dd : Nat) (xs : List Int) (w : World) (hn : 1 ≤ n) (hn2 : n ≤ 1099511627776) (hd : DiceOf TA0 CQ0 w dd xs) :
    Calls Tryd.prog 14 #[.pointer (some ⟨dd, 0, none⟩), .int .i64 (n : Int)] w (DiceRec TA0 CQ0 n dd xs w) := by
  obtain ⟨k, h1, h2, h3⟩ := hd.blk
  have hfew := hd.few
  obtain ⟨m, hm⟩ : ∃ m, m = xs.length := ⟨_, rfl⟩
  rw [← hm] at h1 h2 hfew
  have c0 : w.cell? ⟨dd, 0, none⟩ = some (.slice TA0 m CQ0) := (Lib.cell_of_heap h1 _).trans rfl
  have c1 : w.cell? ⟨dd, 1, none⟩ = some (.int .i64 (k : Int)) := (Lib.cell_of_heap h1 _).trans rfl
  have f1 : w.frozen? ⟨dd, 1, none⟩ = false := Lib.frozen_of_heap h1 1
  have HM := Lib.hid hm
  have HD := Lib.hid hd
  have H1 := Lib.hid h1
  clear hm hd h1
  by_cases hlt : k < m
  · have hkx : k < xs.length := by rw [← HM.out]; exact hlt
    have hx : (xs.map (Value.int .i64))[k]? = some (.int .i64 xs[k]) := by rw [List.getElem?_map, List.getElem?_eq_getElem hkx]; rfl
    obtain ⟨ad, rfl, hS, e0⟩ := h3.at_ hx
    have hfit := HD.out.fit _ (List.getElem_mem hkx)
    have hg1 : decide ((k : Int) ≥ (m : Int)) = false := by simp; omega
    go_enter Tryd.func14, Tryd.ntmps14
    go_wp2_with fail
    go_quiet (fail)
    go_wp2_with fail
    have hk1 : Kp (fun y => y = dd) w ((w.drewN nq).setCell ⟨dd, 1, none⟩ (.int .i64 (k + 1))) := Kp.setCell (M := fun y => y = dd) (Kp.ofBelow (belowDrewN (Below.refl _ _) _)) (fun _ => rfl) _
    have hb2 : ((w.drewN nq).setCell ⟨dd, 1, none⟩ (.int .i64 (k + 1))).heap[dd]? = some (.cells #[.slice (some ad) m CQ0, .int .i64 (k + 1)] 55 (0, 0)) := setCell_heap (w := w.drewN nq) H1.out
    have hz : ∃ ws, ws = (w.drewN nq).setCell ⟨dd, 1, none⟩ (.int .i64 (k + 1)) := ⟨_, rfl⟩
    obtain ⟨ws, hws⟩ := hz
    rw [← hws] at hk1 hb2 ⊢
    have d0 : ws.cell? ⟨dd, 0, none⟩ = some (.slice (some ad) m CQ0) := (Lib.cell_of_heap hb2 _).trans rfl
    have d1 : ws.cell? ⟨dd, 1, none⟩ = some (.int .i64 ((k : Int) + 1)) := (Lib.cell_of_heap hb2 _).trans rfl
    have hlow : Kept (Lt dd) w ws := hk1.kept fun b hb => ⟨by have := lt_of_heap H1.out; unfold Lt at hb; omega, by unfold Lt at hb; omega⟩
    have e1 : ws.cell? (ad.add k) = some (.int .i64 xs[k]) := (hlow _ (by rw [blkAdd]; exact hS)).trans e0
    have hdice : DiceOf (some ad) CQ0 ws dd xs := by
      obtain ⟨k', h1', h2', h3'⟩ := HD.out.blk
      rw [H1.out] at h1'
      injection h1' with h1'
      injection h1' with h1' _ _
      simp at h1'
      obtain ⟨⟨rfl, _, rfl⟩, _⟩ := h1'
      exact ⟨⟨k + 1, by rw [hb2, HM.out]; simp, by omega, h3'.keep hlow⟩, HD.out.few, HD.out.fit⟩
    have HDICE := Lib.hid hdice
    have HK1 := Lib.hid hk1
    clear hdice hk1 hb2 hws hlow c0 c1 f1 e0
    have hwr : IntKind.i64.wrap (k : Int) = (k : Int) := by
      rw [IntKind.wrap_i64]; omega
    have hik : (0 : Int) ≤ (k : Int) ∧ (k : Int) < (m : Int) := ⟨by omega, by omega⟩
    go_quiet ((go_at_call 37; refine Calls.quiet_of_same ((mod_any _ _ _ hfit.1 hfit.2 (by omega) (by omega)).mono fun _ _ h => ⟨h.1, h.2.symm⟩)))
    go_wp2
    go_ret
    refine ⟨(xs[k] % (n : Int)).toNat, ?_, ret_int ?_, ?_⟩
    · have := Int.emod_lt_of_pos xs[k] (b := (n : Int)) (by omega)
      have := Int.emod_nonneg xs[k] (b := (n : Int)) (by omega)
      omega
    · have := Int.emod_nonneg xs[k] (b := (n : Int)) (by omega)
      omega
    · exact ⟨HDICE.out.below (belowDrewN (Below.refl _ _) _), HK1.out.below (belowDrewN (Below.refl _ _) _)⟩
  · obtain rfl : k = m := by omega
    have hg1 : decide ((k : Int) ≥ (k : Int)) = true := by simp
    go_enter Tryd.func14, Tryd.ntmps14
    go_wp2_with fail
    go_quiet (fail)
    go_wp2
    go_ret
    exact ⟨0, by omega, rfl, HD.out.below (belowDrewN (Below.refl _ _) _), Kp.ofBelow (belowDrewN (Below.refl _ _) _)⟩

theorem nextc_any (n dd : Nat) (xs : List Int) (w : World) (hn : 1 ≤ n) (hn2 : n ≤ 1000) (hd : DiceOf TA0 CQ0 w dd xs) :
    Calls Tryd.prog 14 #[.pointer (some ⟨dd, 0, none⟩), .int .i64 (n : Int)] w (DiceRec TA0 CQ0 n dd xs w) := nextc_wide n dd xs w hn (by omega) hd

def OfRec (TA0 : Option Addr) (CQ0 : Nat) (ls : List (List UInt8)) (dd : Nat) (xs : List Int) (w : World) (e : Ending) (w' : World) : Prop := ∃ x ∈ ls, e = .returned (sv x) ∧ Threw TA0 CQ0 dd xs w w'

set_option maxHeartbeats 4000000 in
set_option maxRecDepth 100000 in
theorem ofc_any (ls : List (List UInt8)) (A : Option Addr) (c dd : Nat) (xs : List Int) (w : World) (hn : 1 ≤ ls.length) (hn2 : ls.length ≤ 1000) (hd : DiceOf TA0 CQ0 w dd xs) (hA : Row w (fun y => y < w.heap.size ∧ y ≠ dd) A (ls.map sv)) :
    Calls Tryd.prog 24 #[.pointer (some ⟨dd, 0, none⟩), .slice A ls.length c] w (OfRec TA0 CQ0 ls dd xs w) := by
  obtain ⟨n, hm⟩ : ∃ n, n = ls.length := ⟨_, rfl⟩
  rw [← hm] at hn hn2 ⊢
  have HM := Lib.hid hm
  have HN := Lib.hid (nextc_any n dd xs w hn hn2 hd)
  clear hm hd
  go_enter Tryd.func24, Tryd.ntmps24
  go_wp2_with fail
  refine HN.out.mono ?_
  rintro e w1 ⟨k, hk, rfl, hT, hK⟩
  have hkl : k < ls.length := by rw [← HM.out]; exact hk
  have hx : (ls.map sv)[k]? = some (sv ls[k]) := by rw [List.getElem?_map, List.getElem?_eq_getElem hkl]; rfl
  obtain ⟨ad, rfl, hS, e0⟩ := (hA.keep (hK.kept fun b hb => hb)).at_ hx
  have HT := Lib.hid hT
  have HK := Lib.hid hK
  have HX : Hid (ls[k] ∈ ls) := Lib.hid (List.getElem_mem hkl)
  clear hT hK hx
  go_wp2
  go_ret
  exact ⟨ls[k], HX.out, rfl, HT.out, HK.out⟩

def OneRec (TA0 : Option Addr) (CQ0 : Nat) (dd : Nat) (xs : List Int) (w : World) (e : Ending) (w' : World) : Prop := ∃ b : Bool, e = .returned (.bool b) ∧ Threw TA0 CQ0 dd xs w w'
set_option maxHeartbeats 4000000 in
set_option maxRecDepth 100000 in
theorem onec_any (n dd : Nat) (xs : List Int) (w : World) (hn : 1 ≤ n) (hn2 : n ≤ 1000) (hd : DiceOf TA0 CQ0 w dd xs) :
    Calls Tryd.prog 25 #[.pointer (some ⟨dd, 0, none⟩), .int .i64 (n : Int)] w (OneRec TA0 CQ0 dd xs w) := by
  have HN := Lib.hid (nextc_any n dd xs w hn hn2 hd)
  clear hd
  go_enter Tryd.func25, Tryd.ntmps25
  go_wp2_with fail
  refine HN.out.mono ?_
  rintro e w1 ⟨k, hk, rfl, hT⟩
  have HT := Lib.hid hT
  clear hT
  go_wp2
  go_ret
  exact ⟨_, rfl, HT.out⟩
end
end Go.Proofs.YtkggmckfdkpldaaDoor
