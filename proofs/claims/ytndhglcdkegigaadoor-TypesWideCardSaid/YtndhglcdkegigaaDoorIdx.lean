/-
  The walks of strings.IndexRune beyond ASCII and of strings.IndexAny at "<>,", at whatever bytes.
  Conditions: the string is shorter than 2^31 bytes.
-/
import Derived.Test.YtndhglcdkegigaaDoorParse
import Derived.Test.YtndhglcdkegigaaDoorShelfB
import Derived.Laws.Runes
import Derived.Laws.RangeString
import Derived.Deep.LoopGhost
import Derived.Deep.QuietTactic
import Derived.BigQuiet
namespace Go.Proofs.YtndhglcdkegigaaDoor
open Go.RowKit

def marks : List UInt8 := [60, 62, 44]
/-- Where the first mark stands. -/
def markAt (s : List UInt8) : Int := if rs s = [] then -1 else (nm s).length

theorem sep_iff (c : UInt8) : sep c = marks.contains c := by
  rw [Bool.eq_iff_iff]
  simp [sep, marks, or_assoc]
theorem indexAny_mark (s : List UInt8) : Lib.indexAny s marks = markAt s := by
  induction s with
  | nil => rfl
  | cons c r ih =>
    rw [Lib.indexAny, ih, ← sep_iff]
    unfold markAt nm rs
    by_cases h : sep c = true
    · simp [h]
    · have h' : sep c = false := by simpa using h
      simp only [h', List.takeWhile_cons, List.dropWhile_cons, Bool.not_false, if_true, Bool.false_eq_true, if_false]
      by_cases hr : r.dropWhile (fun c => !sep c) = []
      · simp [hr]
      · rw [if_neg hr, if_neg hr]
        have : ¬ (((r.takeWhile fun c => !sep c).length : Int) == -1) = true := by simp
        rw [if_neg this]
        simp

theorem decode_far (s : ByteArray) (pos : Nat) (h : pos < s.size) (hb : 128 ≤ (s[pos]'h).toNat) :
    ∃ (r k : Nat), Utf8.decode s pos = (r, k) ∧ 128 ≤ r ∧ Utf8.valid r = true ∧ 1 ≤ k ∧ pos + k ≤ s.size ∧ ∀ j, j < k → ∀ hj : pos + j < s.size, 128 ≤ (s[pos + j]'hj).toNat := by
  have e : ∀ k, (hk : pos + k < s.size) → s.get! (pos + k) = s[pos + k]'hk := fun k hk => by
    simp [ByteArray.get!, getElem!_pos, hk]
    rfl
  have e0 : s.get! (pos + 0) = s[pos]'h := e 0 h
  have one : ∀ r : Nat, 128 ≤ r → Utf8.valid r = true → ∃ (r' k : Nat), (r, 1) = (r', k) ∧ 128 ≤ r' ∧ Utf8.valid r' = true ∧ 1 ≤ k ∧ pos + k ≤ s.size ∧ ∀ j, j < k → ∀ hj : pos + j < s.size, 128 ≤ (s[pos + j]'hj).toNat := fun r h1 h2 =>
    ⟨r, 1, rfl, h1, h2, Nat.le_refl _, h, fun j hj hj' => by
      obtain rfl : j = 0 := by omega
      exact hb⟩
  have err := one Utf8.runeError (by decide) (by decide)
  have far : ∀ k, (decide (pos + k < s.size) && (s.get! (pos + k)).toNat / 64 == 2) = true → ∃ hk : pos + k < s.size, 128 ≤ (s[pos + k]'hk).toNat := fun k hk => by
    simp only [Bool.and_eq_true, decide_eq_true_eq, beq_iff_eq] at hk
    refine ⟨hk.1, ?_⟩
    rw [← e k hk.1]
    have := hk.2
    omega
  have n0 : ¬ (s.get! (pos + 0)).toNat < 128 := by rw [e0]; omega
  unfold Utf8.decode
  simp only [n0, if_false]
  split
  · rename_i h1
    simp only [Bool.and_eq_true] at h1
    obtain ⟨k1, b1⟩ := far 1 (by simpa using h1.2)
    split
    · rename_i h2
      refine ⟨_, 2, rfl, h2, ?_, by omega, by omega, fun j hj hj' => ?_⟩
      · have : (s.get! (pos + 0)).toNat % 32 * 64 + (s.get! (pos + 1)).toNat % 64 < 0xD800 := by omega
        simp only [Utf8.valid, Bool.or_eq_true, Bool.and_eq_true, decide_eq_true_eq]
        left
        omega
      · rcases (show j = 0 ∨ j = 1 by omega) with rfl | rfl
        · exact hb
        · exact b1
    · exact err
  · split
    · rename_i h1
      simp only [Bool.and_eq_true] at h1
      obtain ⟨k1, b1⟩ := far 1 (by simpa using h1.1.2)
      obtain ⟨k2, b2⟩ := far 2 (by simpa using h1.2)
      split
      · rename_i h2
        simp only [Bool.and_eq_true, decide_eq_true_eq] at h2
        refine ⟨_, 3, rfl, by omega, h2.2, by omega, by omega, fun j hj hj' => ?_⟩
        rcases (show j = 0 ∨ j = 1 ∨ j = 2 by omega) with rfl | rfl | rfl
        · exact hb
        · exact b1
        · exact b2
      · exact err
    · split
      · rename_i h1
        simp only [Bool.and_eq_true] at h1
        obtain ⟨k1, b1⟩ := far 1 (by simpa using h1.1.1.2)
        obtain ⟨k2, b2⟩ := far 2 (by simpa using h1.1.2)
        obtain ⟨k3, b3⟩ := far 3 (by simpa using h1.2)
        split
        · rename_i h2
          simp only [Bool.and_eq_true, decide_eq_true_eq] at h2
          refine ⟨_, 4, rfl, by omega, h2.2, by omega, by omega, fun j hj hj' => ?_⟩
          rcases (show j = 0 ∨ j = 1 ∨ j = 2 ∨ j = 3 by omega) with rfl | rfl | rfl | rfl
          · exact hb
          · exact b1
          · exact b2
          · exact b3
        · exact err
      · exact err

theorem run_next_far {P : Program} (w : World) (s : ByteArray) (pos r k : Nat) (ty : TypeId) (h : pos < s.size) (hd : Utf8.decode s pos = (r, k)) :
    (Instr.next (.pointer (some ⟨w.heap.size, 0, none⟩)) true ty).run P (w.iter s pos) = .ok (.tuple #[.bool true, .int .i64 pos, .int .i32 r]) (w.iter s (pos + k)) := by
  simp only [Instr.next, getObj, setObj, Sem.run_bind, Sem.run, World.iter_heap, Result.andThen, h, if_true, hd, World.iter_set]
  simp [goInt]

theorem belowIter (w : World) (s : ByteArray) (pos : Nat) : Below w.heap.size w (w.iter s pos) := (Below.refl _ _).alloc (Nat.le_refl _) _

set_option maxHeartbeats 4000000 in
set_option maxRecDepth 100000 in
theorem indexRune_err (w : World) : Calls Tryd.prog 70 #[.string ⟨#[60, 62, 44]⟩, .int .i32 65533] w fun e w' => e = .returned (.int .i64 (-1)) ∧ Below w.heap.size w w' := by
  go_enter Tryd.func70, Tryd.ntmps70
  go_wp2_with fail
  go_loopg [5, 6] 3 (fun g _ _ wx => ∃ i : Nat, i + g = 3 ∧ wx = w.iter ⟨#[60, 62, 44]⟩ i)
  case atStart => exact ⟨0, rfl, rfl⟩
  case round =>
    obtain ⟨i, hig, rfl⟩ := hrel
    have h4 : i = 0 ∨ i = 1 ∨ i = 2 ∨ i = 3 := by omega
    rcases h4 with rfl | rfl | rfl | rfl
    · obtain rfl : gk = 3 := by omega
      have hnx := fun ty => run_next_ascii (P := Tryd.prog) w ⟨#[60, 62, 44]⟩ 0 ty (by decide) (by decide)
      rw [show (((⟨#[60, 62, 44]⟩ : ByteArray)[0]'(by decide)).toNat) = 60 from rfl] at hnx
      go_wp2
      go_roundg 2
      case measure => omega
      case rel => exact ⟨1, rfl, rfl⟩
    · obtain rfl : gk = 2 := by omega
      have hnx := fun ty => run_next_ascii (P := Tryd.prog) w ⟨#[60, 62, 44]⟩ 1 ty (by decide) (by decide)
      rw [show (((⟨#[60, 62, 44]⟩ : ByteArray)[1]'(by decide)).toNat) = 62 from rfl] at hnx
      go_wp2
      go_roundg 1
      case measure => omega
      case rel => exact ⟨2, rfl, rfl⟩
    · obtain rfl : gk = 1 := by omega
      have hnx := fun ty => run_next_ascii (P := Tryd.prog) w ⟨#[60, 62, 44]⟩ 2 ty (by decide) (by decide)
      rw [show (((⟨#[60, 62, 44]⟩ : ByteArray)[2]'(by decide)).toNat) = 44 from rfl] at hnx
      go_wp2
      go_roundg 0
      case measure => omega
      case rel => exact ⟨3, rfl, rfl⟩
    · have hnx := fun ty => run_next_end (P := Tryd.prog) w ⟨#[60, 62, 44]⟩ 3 ty (by decide)
      go_wp2
      go_ret
      exact ⟨rfl, belowIter _ _ _⟩

theorem encode_forms (r : Int) (hv : Utf8.valid r = true) (h128 : 128 ≤ r) :
    (∃ a b : UInt8, Utf8.encode r = ⟨#[a, b]⟩ ∧ 128 ≤ b.toNat) ∨ (∃ a b c : UInt8, Utf8.encode r = ⟨#[a, b, c]⟩ ∧ 128 ≤ c.toNat) ∨ ∃ a b c d : UInt8, Utf8.encode r = ⟨#[a, b, c, d]⟩ := by
  have hc : ¬ r.toNat < 128 := by omega
  unfold Utf8.encode
  simp only [hv, if_true, hc, if_false]
  split
  · exact .inl ⟨_, _, rfl, by simp; omega⟩
  · split
    · exact .inr (.inl ⟨_, _, _, rfl, by simp; omega⟩)
    · exact .inr (.inr ⟨_, _, _, _, rfl⟩)

set_option maxHeartbeats 4000000 in
set_option maxRecDepth 100000 in
theorem indexRune_far (r : Int) (w : World) (h128 : 128 ≤ r) (hv : Utf8.valid r = true) (hne : r ≠ 65533) : Calls Tryd.prog 70 #[.string ⟨#[60, 62, 44]⟩, .int .i32 r] w fun e w' => e = .returned (.int .i64 (-1)) ∧ Below w.heap.size w w' := by
  have hr1 : ¬ r < 128 := by omega
  have hr0 : (0 : Int) ≤ r := by omega
  have hb1 : decide (r < 128) = false := by simp; omega
  have hb2 : (r == 65533) = false := by simpa using hne
  have hvr : Lib.validRune r = true := by
    simp only [Utf8.valid, Bool.or_eq_true, Bool.and_eq_true, decide_eq_true_eq] at hv
    simp only [Lib.validRune, decide_eq_true_eq]
    omega
  rcases encode_forms r hv h128 with ⟨a, b, he, hb⟩ | ⟨a, b, c, he, hb⟩ | ⟨a, b, c, d, he⟩
  · clear hv hne
    go_enter Tryd.func70, Tryd.ntmps70
    go_wp2_with fail
    refine (Tryd.utf8_ValidRune r w).mono ?_
    rintro e w' ⟨rfl, rfl⟩
    rw [hvr]
    go_wp2_with fail
    go_step3
    go_wp2_with fail
    go_loopg [9] 0 (fun g i wx => i = .int .i64 1 ∧ wx = w')
    case atStart => exact ⟨rfl, rfl⟩
    case round =>
      obtain ⟨rfl, rfl⟩ := hrel
      have hcmp : ((((⟨#[60, 62, 44]⟩ : ByteArray)[1]'(by show 1 < 3; decide)).toNat : Int) != (((⟨#[a, b]⟩ : ByteArray)[1]'(by show 1 < 2; decide)).toNat : Int)) = true := by
        show ((((62 : UInt8).toNat : Nat) : Int) != (b.toNat : Int)) = true
        simp
        omega
      have hw2 : IntKind.i64.wrap 2 = 2 := by decide
      have hlt : Lib.indexByte [44] ((⟨#[a, b]⟩ : ByteArray)[1]'(by show 1 < 2; decide)) < 0 := by
        show Lib.indexByte [44] b < 0
        have : (44 : UInt8) ≠ b := fun e => by subst e; simp at hb
        simp [Lib.indexByte, this]
      go_wp2_with fail
      go_step3
      go_wp2_with fail
      go_quiet (fail)
      go_wp2_with fail
      have hb1 : Below wr.heap.size wr (wr.drewN nq) := belowDrewN (Below.refl _ _) _
      generalize wr.drewN nq = wq at *
      go_quiet ((go_at_call 80; exact Calls.quiet_of_same (Tryd.strings_IndexByte _ _ _)))
      go_wp2
      simp only [Exit.noGoto_ret]
      go_simp
      go_ret
      exact ⟨rfl, belowDrewN hb1 _⟩
  · clear hv hne
    go_enter Tryd.func70, Tryd.ntmps70
    go_wp2_with fail
    refine (Tryd.utf8_ValidRune r w).mono ?_
    rintro e w' ⟨rfl, rfl⟩
    rw [hvr]
    go_wp2_with fail
    go_step3
    go_wp2_with fail
    go_loopg [9] 0 (fun g i wx => i = .int .i64 2 ∧ wx = w')
    case atStart => exact ⟨rfl, rfl⟩
    case round =>
      obtain ⟨rfl, rfl⟩ := hrel
      have hcmp : ((((⟨#[60, 62, 44]⟩ : ByteArray)[2]'(by show 2 < 3; decide)).toNat : Int) != (((⟨#[a, b, c]⟩ : ByteArray)[2]'(by show 2 < 3; decide)).toNat : Int)) = true := by
        show ((((44 : UInt8).toNat : Nat) : Int) != (c.toNat : Int)) = true
        simp
        omega
      have hw2 : IntKind.i64.wrap 3 = 3 := by decide
      go_wp2_with fail
      go_step3
      go_wp2_with fail
      go_quiet (fail)
      go_wp2_with fail
      have hb1 : Below wr.heap.size wr (wr.drewN nq) := belowDrewN (Below.refl _ _) _
      generalize wr.drewN nq = wq at *
      go_quiet ((go_at_call 80; exact Calls.quiet_of_same (Tryd.strings_IndexByte _ _ _)))
      go_wp2
      simp only [Exit.noGoto_ret]
      go_simp
      go_ret
      exact ⟨rfl, belowDrewN hb1 _⟩
  · clear hv hne
    go_enter Tryd.func70, Tryd.ntmps70
    go_wp2_with fail
    refine (Tryd.utf8_ValidRune r w).mono ?_
    rintro e w' ⟨rfl, rfl⟩
    rw [hvr]
    go_wp2_with fail
    go_step3
    go_wp2_with fail
    go_loopg [9] 0 (fun g i wx => i = .int .i64 3 ∧ wx = w')
    case atStart => exact ⟨rfl, rfl⟩
    case round =>
      obtain ⟨rfl, rfl⟩ := hrel
      go_wp2
      rw [Exit.noGoto_ret]
      go_ret
      exact ⟨rfl, Below.refl _ _⟩

theorem rune_far (r : Nat) (w : World) (h128 : 128 ≤ r) (hv : Utf8.valid r = true) : Calls Tryd.prog 70 #[.string ⟨#[60, 62, 44]⟩, .int .i32 r] w fun e w' => e = .returned (.int .i64 (-1)) ∧ Below w.heap.size w w' := by
  by_cases h : (r : Int) = 65533
  · rw [h]
    exact indexRune_err w
  · exact indexRune_far r w (by omega) hv h

/-- No mark stands before place i. -/
def Clear (s : List UInt8) (i : Nat) : Prop := ∀ j b, j < i → s[j]? = some b → sep b = false
theorem Clear.succ {s : List UInt8} {i : Nat} {x : UInt8} (h : Clear s i) (hx : s[i]? = some x) (hn : sep x = false) : Clear s (i + 1) := fun j b hj hb => by
  by_cases e : j = i
  · subst e; rw [hx] at hb; cases hb; exact hn
  · exact h j b (by omega) hb
theorem noAny_clear {s : List UInt8} {i : Nat} (h : Clear s i) : Lib.NoAny s marks i := fun j b hj hb => by rw [← sep_iff]; exact h j b hj hb

def IdxRes (s : List UInt8) (w : World) (e : Ending) (w' : World) : Prop := e = .returned (.int .i64 (markAt s)) ∧ Below w.heap.size w w'

/-- The iterator at block b goes on. -/
def stepIter (w : World) (b : Nat) (s : ByteArray) (p : Nat) : World := { w with heap := w.heap.setIfInBounds b (.stringIter s p) }
theorem run_next_at {P : Program} {w : World} {b : Nat} {s : ByteArray} {pos r k : Nat} (hb : w.heap[b]? = some (.stringIter s pos)) (ty : TypeId) (h : pos < s.size) (hd : Utf8.decode s pos = (r, k)) :
    (Instr.next (.pointer (some ⟨b, 0, none⟩)) true ty).run P w = .ok (.tuple #[.bool true, .int .i64 pos, .int .i32 r]) (stepIter w b s (pos + k)) := by
  simp [Instr.next, getObj, setObj, Sem.run_bind, Sem.run, hb, Result.andThen, h, hd, stepIter, goInt]
theorem run_next_stop {P : Program} {w : World} {b : Nat} {s : ByteArray} {pos : Nat} (hb : w.heap[b]? = some (.stringIter s pos)) (ty : TypeId) (h : ¬ pos < s.size) :
    (Instr.next (.pointer (some ⟨b, 0, none⟩)) true ty).run P w = .ok (.tuple #[.bool false]) w := by
  simp [Instr.next, getObj, Sem.run, hb, h]
theorem stepIter_at {w : World} {b : Nat} {s : ByteArray} {p : Nat} (h : b < w.heap.size) : (stepIter w b s p).heap[b]? = some (.stringIter s p) := by
  simp [stepIter, h]
theorem stepIter_below {w0 w : World} {b : Nat} {s : ByteArray} {p : Nat} (h : Below w0.heap.size w0 w) (hb : w0.heap.size ≤ b) : Below w0.heap.size w0 (stepIter w b s p) := by
  refine ⟨h.os, h.tape, h.output, by simpa [stepIter] using h.size, fun x hx => ?_⟩
  rw [← h.block x hx]
  simp only [stepIter]
  rw [Array.getElem?_setIfInBounds_ne (by omega)]

theorem markAt_hit {s : List UInt8} {i : Nat} {x : UInt8} (h : Clear s i) (hx : s[i]? = some x) (hn : sep x = true) : markAt s = i := by
  rw [← indexAny_mark]
  exact Lib.indexAny_hit (noAny_clear h) hx (by rw [← sep_iff]; exact hn)
theorem markAt_none {s : List UInt8} (h : Clear s s.length) : markAt s = -1 := by
  rw [← indexAny_mark]
  exact Lib.indexAny_none (noAny_clear h)
theorem sep_small {c : UInt8} (h : 128 ≤ c.toNat) : sep c = false := by
  rw [← Bool.not_eq_true]
  intro e
  simp only [sep, Bool.or_eq_true, beq_iff_eq] at e
  rcases e with (rfl | rfl) | rfl <;> simp at h

theorem indexByte_far {x : UInt8} (h : sep x = false) : Lib.indexByte [60, 62, 44] x = -1 := by
  simp only [sep, Bool.or_eq_false_iff, beq_eq_false_iff_ne] at h
  have h1 : ((60 : UInt8) == x) = false := beq_eq_false_iff_ne.2 fun e => h.1.1 e.symm
  have h2 : ((62 : UInt8) == x) = false := beq_eq_false_iff_ne.2 fun e => h.1.2 e.symm
  have h3 : ((44 : UInt8) == x) = false := beq_eq_false_iff_ne.2 fun e => h.2 e.symm
  simp only [Lib.indexByte, h1, h2, h3]
  rfl

set_option maxHeartbeats 4000000 in
set_option maxRecDepth 100000 in
theorem indexAny_short (s : List UInt8) (w : World) (h8 : s.length ≤ 8) : Calls Tryd.prog 52 #[.string (bs s), .string ⟨#[60, 62, 44]⟩] w (IdxRes s w) := by
  have h8z : decide ((8 : Int) < ((bs s).size : Int)) = false := decide_eq_false (by rw [bs_size]; omega)
  go_enter Tryd.func52, Tryd.ntmps52
  go_wp2_with fail
  refine (Tryd.strings_shouldUseASCIISet _ _).mono ?_
  rintro e w0 ⟨rfl, rfl⟩
  rw [h8z]
  go_wp2_with fail
  go_loopg [9, 10] s.length (fun g _ _ wx => ∃ i : Nat, i + g = s.length ∧ wx.heap[w0.heap.size]? = some (.stringIter (bs s) i) ∧ Below w0.heap.size w0 wx ∧ Clear s i)
  case atStart => exact ⟨0, by omega, World.iter_heap _ _ _, belowIter _ _ _, fun j b hj => by omega⟩
  case round =>
    obtain ⟨i, hig, hit, hb, hcl⟩ := hrel
    have HB := Lib.hid hb
    have HCL := Lib.hid hcl
    have HIT := Lib.hid hit
    have hltb := (Array.getElem?_eq_some_iff.1 hit).1
    have hsz := hb.size
    clear hb hcl
    by_cases hlt : i < s.length
    · have his : i < (bs s).size := by rw [bs_size]; exact hlt
      have hgx : s[i]? = some ((bs s)[i]'his) := by
        have := Lib.data_getElem? (bs s) i his
        rwa [bs_data] at this
      obtain ⟨x, hx⟩ : ∃ x : UInt8, (bs s)[i]'his = x := ⟨_, rfl⟩
      rw [hx] at hgx
      have HGX := Lib.hid hgx
      clear hgx
      by_cases ha : x.toNat < 128
      · have hde : Utf8.decode (bs s) i = (x.toNat, 1) := by rw [decode_ascii (bs s) i his (by rw [hx]; exact ha), hx]
        have hnx := fun ty => run_next_at (P := Tryd.prog) HIT.out ty his hde
        have HI2 := Lib.hid (stepIter_at (s := bs s) (p := i + 1) hltb)
        have HB2 := Lib.hid (stepIter_below (s := bs s) (p := i + 1) HB.out (Nat.le_refl _))
        clear hde hit HIT hx
        by_cases hse : sep x = true
        · have hres := markAt_hit HCL.out HGX.out hse
          have HR := Lib.hid hres
          have hge : (0 : Int) ≤ Lib.indexByte [60, 62, 44] x := by
            simp only [sep, Bool.or_eq_true, beq_iff_eq] at hse
            rcases hse with (rfl | rfl) | rfl <;> decide
          have hba : (x.toNat : Int).toNat.toUInt8 = x := by simp
          clear hres hse
          go_wp2_with fail
          refine (Tryd.strings_IndexRune_ascii _ _ _ (by omega) (by omega)).mono ?_
          rintro e w1 ⟨rfl, hw1⟩
          rw [hba, hw1]
          clear hw1
          go_wp2
          go_ret
          exact ⟨by rw [HR.out]; rfl, HB2.out⟩
        · have hse' : sep x = false := by simpa using hse
          have hge : Lib.indexByte [60, 62, 44] x < 0 := by rw [indexByte_far hse']; decide
          have hba : (x.toNat : Int).toNat.toUInt8 = x := by simp
          have HCL2 := Lib.hid (HCL.out.succ HGX.out hse')
          clear hse hse'
          go_wp2_with fail
          refine (Tryd.strings_IndexRune_ascii _ _ _ (by omega) (by omega)).mono ?_
          rintro e w1 ⟨rfl, hw1⟩
          rw [hba, hw1]
          clear hw1
          go_wp2
          go_roundg (s.length - (i + 1))
          case measure => omega
          case rel => exact ⟨i + 1, by omega, HI2.out, HB2.out, HCL2.out⟩
      · obtain ⟨r, k, hde, hr128, hrv, hk1, hks, hkb⟩ := decode_far (bs s) i his (by rw [hx]; omega)
        have hnx := fun ty => run_next_at (P := Tryd.prog) HIT.out ty his hde
        have HI2 := Lib.hid (stepIter_at (s := bs s) (p := i + k) hltb)
        have HB2 := Lib.hid (stepIter_below (s := bs s) (p := i + k) HB.out (Nat.le_refl _))
        have HCL2 : Hid (Clear s (i + k)) := Lib.hid fun j b hj hjb => by
          rcases Nat.lt_or_ge j i with h | h
          · exact HCL.out j b h hjb
          · obtain ⟨d, rfl⟩ : ∃ d, j = i + d := ⟨j - i, by omega⟩
            have hjs : i + d < (bs s).size := by omega
            have h5 := hkb d (by omega) hjs
            have h6 := Lib.data_getElem? (bs s) (i + d) hjs
            rw [bs_data, hjb] at h6
            refine sep_small ?_
            rw [Option.some.inj h6]
            exact h5
        rw [bs_size] at hks
        clear hde hit HIT hx hkb
        have HRF := Lib.hid (fun w => rune_far r w hr128 hrv)
        clear hrv
        go_wp2_with fail
        refine (HRF.out _).mono ?_
        rintro e w1 ⟨rfl, hb1⟩
        have hss : (stepIter wr w0.heap.size (bs s) (i + k)).heap.size = wr.heap.size := by simp [stepIter]
        have HI3 := Lib.hid ((hb1.block _ (by rw [hss]; exact hltb)).trans HI2.out)
        have HB3 := Lib.hid (HB2.out.trans (hb1.mono (by rw [hss]; exact hsz)))
        clear hb1
        go_wp2
        go_roundg (s.length - (i + k))
        case measure => omega
        case rel => exact ⟨i + k, by omega, HI3.out, HB3.out, HCL2.out⟩
    · obtain rfl : i = s.length := by omega
      have hnx := fun ty => run_next_stop (P := Tryd.prog) HIT.out ty (by rw [bs_size]; exact hlt)
      have hres := markAt_none HCL.out
      have HR := Lib.hid hres
      clear hres hit
      go_wp2
      go_ret
      exact ⟨by rw [HR.out]; rfl, HB.out⟩

theorem zeroSet (w : World) : (zeroValue 120).run Tryd.prog w = .ok (.agg (Array.replicate 256 (.bool false))) w := by kernel_rfl

theorem indexAny_any (s : List UInt8) (w : World) (hs : s.length ≤ 1000000000) : Calls Tryd.prog 52 #[.string (bs s), .string ⟨#[60, 62, 44]⟩] w (IdxRes s w) := by
  by_cases h8 : s.length ≤ 8
  · exact indexAny_short s w h8
  · refine (Tryd.strings_IndexAny_long zeroSet (bs s) ⟨#[60, 62, 44]⟩ w (by decide) (by rw [bs_size]; omega) (by rw [bs_size]; omega) (by decide) (fun j b hj => ?_)).mono ?_
    · match j, hj with
      | 0, hj => cases hj; decide
      | 1, hj => cases hj; decide
      | 2, hj => cases hj; decide
      | j + 3, hj => simp at hj
    · rintro e w' ⟨rfl, rfl⟩
      refine ⟨?_, ((Below.refl _ _).alloc (Nat.le_refl _) _).alloc (by simp) _⟩
      rw [bs_data, ← indexAny_mark]
      rfl
end Go.Proofs.YtndhglcdkegigaaDoor
