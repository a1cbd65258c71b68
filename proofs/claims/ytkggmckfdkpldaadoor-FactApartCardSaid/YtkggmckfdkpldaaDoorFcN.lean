/-
  The walks of package fact: number, Pack and Unpack: what each call returns, and that of what was there nothing has turned.
  Conditions: 'Env': the library's variables that the road reads hold what the program's text lays; texts are of at most 10^9 bytes.
-/
import Derived.Test.YtkggmckfdkpldaaDoorFcX
import Derived.Test.YtkggmckfdkpldaaDoorFcM
import Derived.Test.YtkggmckfdkpldaaDoorShelf
import Derived.Test.YtkggmckfdkpldaaDoorFcB
import Derived.Lib.SmallJoins
import Derived.Lib.AppendIntMem
import Derived.WalkSmall
import Derived.BigGuardPart
namespace Go.Proofs.YtkggmckfdkpldaaDoor
open Go.RowKit

theorem gMax : Tryd.prog.globalNamed "internal/bytealg.MaxLen" = some 0 := by kernel_rfl
theorem gTab : Tryd.prog.globalNamed "internal/strconv.uint64pow10" = some 1 := by kernel_rfl
theorem gSyn : Tryd.prog.globalNamed "strconv.ErrSyntax" = some 2 := by kernel_rfl
theorem gRng : Tryd.prog.globalNamed "strconv.ErrRange" = some 3 := by kernel_rfl

/-- What the road asks of the library's variables. -/
structure Env (w : World) : Prop where
  max : ∃ m : Int, w.cell? ⟨0, 0, none⟩ = some (.int .i64 m)
  tab : Lib.TabIs Tryd.prog w "internal/strconv.uint64pow10" .u64 Lib.pow10Tab
  syn : ∃ (tp : TypeId) (p : Value), w.var? Tryd.prog "strconv.ErrSyntax" = some #[.iface tp p]
  rng : ∃ (tp : TypeId) (p : Value), w.var? Tryd.prog "strconv.ErrRange" = some #[.iface tp p]

theorem Env.below {w w' : World} (h : Env w) (hb : Below w.heap.size w w') : Env w' := by
  obtain ⟨⟨m, hm⟩, ht, ⟨t1, p1, h1⟩, ⟨t2, p2, h2⟩⟩ := h
  refine ⟨⟨m, ?_⟩, Joins.tab_stays gTab ht hb (Nat.le_refl _), ⟨t1, p1, Joins.var_stays gSyn h1 hb (Nat.le_refl _)⟩, ⟨t2, p2, Joins.var_stays gRng h2 hb (Nat.le_refl _)⟩⟩
  rw [hb.cell (p := ⟨0, 0, none⟩) (Lib.lt_of_cell hm)]
  exact hm

theorem itoa_b (n : Int) (w : World) (h0 : -9223372036854775808 ≤ n) (h1 : n ≤ 9223372036854775807) (he : Env w) :
    Calls Tryd.prog 26 #[.int .i64 n] w fun e w' => e = .returned (.string (bs (Lib.itoa n))) ∧ Below w.heap.size w w' := by
  refine (Tryd.strconv_Itoa n h0 h1 w he.tab).mono ?_
  rintro e w' ⟨rfl, k, os, rfl⟩
  exact ⟨rfl, Lib.below_grow _ w (Nat.le_refl _) k os⟩

theorem atoi_yes (s : ByteArray) (v : Int) (w : World) (hs : s.size ≤ 1000000000) (ha : Lib.atoiAll s.data.toList = .ok v) :
    Calls Tryd.prog 59 #[.string s] w fun e w' => e = .returned (.tuple #[.int .i64 v, .nilIface]) ∧ Below w.heap.size w w' := by
  refine (Tryd.strconv_Atoi_ok s (by omega) v ha w).mono ?_
  rintro e w' ⟨rfl, hw⟩
  refine ⟨rfl, ?_⟩
  rcases hw with rfl | ⟨t, rfl⟩
  · exact Below.refl _ _
  · exact Lib.bytesWorld_below _ _ _

/-- An error that is not nil. -/
def AtoiNo (w : World) (e : Ending) (w' : World) : Prop :=
  ∃ (v : Int) (N : Nat), e = .returned (.tuple #[.int .i64 v, .iface 130 (.pointer (some ⟨N, 0, none⟩))]) ∧ Below w.heap.size w w'

theorem atoi_no (s : ByteArray) (w : World) (hs : s.size ≤ 1000000000) (he : Env w) (hn : ∀ v : Int, Lib.atoiAll s.data.toList ≠ .ok v) : Calls Tryd.prog 59 #[.string s] w (AtoiNo w) := by
  cases ha : Lib.atoiAll s.data.toList with
  | ok v => exact absurd ha (hn v)
  | range =>
    obtain ⟨tp, p, hv⟩ := he.rng
    refine (Tryd.strconv_Atoi_range_var s (by omega) ha tp p w hv).mono ?_
    rintro e w' ⟨N, rfl, _, _, hb⟩
    exact ⟨_, N, rfl, hb⟩
  | _ =>
    obtain ⟨tp, p, hv⟩ := he.syn
    refine (Tryd.strconv_Atoi_syntax_var s (by omega) ha tp p w hv).mono ?_
    rintro e w' ⟨N, rfl, _, _, hb⟩
    exact ⟨0, N, rfl, hb⟩

theorem bytesNe {l : List UInt8} {s : ByteArray} (h : l ≠ s.data.toList) : ((bs l).toList == s.toList) = false := by
  rw [Lib.toList_data, Lib.toList_data, bs_data]
  simpa using h

theorem numv_of_ok {l : List UInt8} {v : Int} (h : Lib.atoiAll l = .ok v) : numv l = if Lib.itoa v = l then (v, true) else (0, false) := by unfold numv; rw [h]
theorem numv_of_no {l : List UInt8} (h : ∀ v : Int, Lib.atoiAll l ≠ .ok v) : numv l = (0, false) := by
  unfold numv
  cases ha : Lib.atoiAll l with
  | ok v => exact absurd ha (h v)
  | _ => rfl

set_option maxHeartbeats 400000 in
theorem number_good (v : Int) (s : ByteArray) (w : World) (hs : s.size ≤ 1000000000) (he : Env w) (hv : Lib.atoiAll s.data.toList = .ok v) (hi : Lib.itoa v = s.data.toList) :
    Calls Tryd.prog 41 #[.string s] w fun e w' => e = .returned (.tuple #[.int .i64 v, .bool true]) ∧ Below w.heap.size w w' := by
  obtain ⟨b0, b1⟩ := Lib.atoiAll_bounds hv
  have hat := Lib.hid (atoi_yes s v w hs hv)
  have hs2 : s = bs (Lib.itoa v) := by rw [hi, bs_of]
  clear hv hi
  obtain ⟨l, hl⟩ : ∃ l, l = Lib.itoa v := ⟨_, rfl⟩
  rw [← hl] at hs2
  have Hl := Lib.hid hl
  clear hl
  subst hs2
  go_enter Tryd.func41, Tryd.ntmps41
  go_wp2_with fail
  refine hat.out.mono ?_
  rintro e w1 ⟨rfl, hb⟩
  have he1 := he.below hb
  go_wp2_with fail
  refine (itoa_b v w1 b0 b1 he1).mono ?_
  rintro e w2 ⟨rfl, hb2⟩
  rw [← Hl.out]
  go_wp2
  go_ret2
  exact ⟨rfl, hb.trans (hb2.mono hb.size)⟩

set_option maxHeartbeats 400000 in
theorem number_other (v : Int) (s : ByteArray) (w : World) (hs : s.size ≤ 1000000000) (he : Env w) (hv : Lib.atoiAll s.data.toList = .ok v) (hi : Lib.itoa v ≠ s.data.toList) :
    Calls Tryd.prog 41 #[.string s] w fun e w' => e = .returned (.tuple #[.int .i64 0, .bool false]) ∧ Below w.heap.size w w' := by
  obtain ⟨b0, b1⟩ := Lib.atoiAll_bounds hv
  have hat := Lib.hid (atoi_yes s v w hs hv)
  clear hv
  obtain ⟨l, hl⟩ : ∃ l, l = Lib.itoa v := ⟨_, rfl⟩
  rw [← hl] at hi
  have Hl := Lib.hid hl
  clear hl
  have hne := bytesNe hi
  clear hi
  go_enter Tryd.func41, Tryd.ntmps41
  go_wp2_with fail
  refine hat.out.mono ?_
  rintro e w1 ⟨rfl, hb⟩
  have he1 := he.below hb
  go_wp2_with fail
  refine (itoa_b v w1 b0 b1 he1).mono ?_
  rintro e w2 ⟨rfl, hb2⟩
  rw [← Hl.out]
  go_wp2
  go_ret2
  exact ⟨rfl, hb.trans (hb2.mono hb.size)⟩

set_option maxHeartbeats 400000 in
theorem number_no (s : ByteArray) (w : World) (hs : s.size ≤ 1000000000) (he : Env w) (hn : ∀ v : Int, Lib.atoiAll s.data.toList ≠ .ok v) :
    Calls Tryd.prog 41 #[.string s] w fun e w' => e = .returned (.tuple #[.int .i64 0, .bool false]) ∧ Below w.heap.size w w' := by
  have hat := Lib.hid (atoi_no s w hs he hn)
  clear hn
  go_enter Tryd.func41, Tryd.ntmps41
  go_wp2_with fail
  refine hat.out.mono ?_
  rintro e w1 ⟨v, N, rfl, hb⟩
  go_wp2_with fail
  go_ret2
  exact ⟨rfl, hb⟩

theorem number_any (s : ByteArray) (w : World) (hs : s.size ≤ 1000000000) (he : Env w) :
    Calls Tryd.prog 41 #[.string s] w fun e w' => e = .returned (.tuple #[.int .i64 (numv s.data.toList).1, .bool (numv s.data.toList).2]) ∧ Below w.heap.size w w' := by
  by_cases h : ∃ v : Int, Lib.atoiAll s.data.toList = .ok v
  · obtain ⟨v, hv⟩ := h
    rw [numv_of_ok hv]
    by_cases hi : Lib.itoa v = s.data.toList
    · rw [if_pos hi]
      exact number_good v s w hs he hv hi
    · rw [if_neg hi]
      exact number_other v s w hs he hv hi
  · have hn : ∀ v : Int, Lib.atoiAll s.data.toList ≠ .ok v := fun v hv => h ⟨v, hv⟩
    rw [numv_of_no hn]
    exact number_no s w hs he hn
end Go.Proofs.YtkggmckfdkpldaaDoor
