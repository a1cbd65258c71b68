/-
  The walk of recompilelaw12.awake.
  Conditions: none.
-/
import Derived.Test.YtiijlecidepneaaList
import Derived.Test.YtiijlecidepneaaHold
namespace Go.Proofs.Ytiijlecidepneaa
open Go.RowKit

def tInt : Ty := .mk [105, 110, 116] []
def tBool : Ty := .mk [98, 111, 111, 108] []
def tLi (t : Ty) : Ty := .mk listName [t]
def hS1 : Hdr := ⟨[], [83], tInt⟩
def hS2 : Hdr := ⟨[([84], [83])], [83], tLi (.mk [36, 84] [])⟩
def hSs : List Hdr := [hS1, hS2]
theorem sel_awake : selOf hSs (tLi tBool) 0 = some (1, [tBool]) := by kernel_rfl
def gYes : Goal := ([83], tLi (tLi tInt))
def gNo : Goal := ([83], tLi tBool)
theorem yes_awake : (dfs (leadsOf hSs []) (goalsIn hSs [] gYes).length [] gYes).1 = true := by kernel_rfl
theorem no_awake : (dfs (leadsOf hSs []) (goalsIn hSs [] gNo).length [] gNo).1 = false := by kernel_rfl
theorem yes_few : (goalsIn hSs [] gYes).length ≤ 4000000 := by rw [goalsIn_length]; decide
theorem no_few : (goalsIn hSs [] gNo).length ≤ 4000000 := by rw [goalsIn_length]; decide

theorem hds_awake {w : World} {B1 B2 : Nat} {T1 T2 : TypeId} {S : Nat → Prop} {v : Value} (h1 : w.heap[B1]? = some (.cells #[sv [84], sv [83]] T1 (0, 0)))
    (h2 : w.heap[B2]? = some (.cells #[sv [105], .slice none 0 0, sv [83], sv [105, 110, 116], .slice none 0 0, sv [106], .slice (some ⟨B1, 0, none⟩) 1 1, sv [83], sv listName, v] T2 (0, 0)))
    (hS1 : S B1) (hS2' : S B2) (ht : TyIs w S (tLi (.mk [36, 84] [])) (sv listName) v) :
    Hds w S (some ⟨B2, 0, none⟩) hSs [⟨sv [105], .slice none 0 0, sv [83], sv [105, 110, 116], .slice none 0 0⟩, ⟨sv [106], .slice (some ⟨B1, 0, none⟩) 1 1, sv [83], sv listName, v⟩] := by
  refine ⟨rfl, row_heap h2 rfl hS2', fun i h q hi hq => ?_, fun h hh => ?_, by decide⟩
  · match i, hi, hq with
    | 0, hi, hq =>
      cases hi
      cases hq
      exact ⟨⟨_, rfl⟩, ⟨none, 0, rfl, Nat.le_refl _, Nat.zero_le _, Row.nil _ _ _⟩, rfl, leaf_is _ _ _ (by decide), by decide⟩
    | 1, hi, hq =>
      cases hi
      cases hq
      exact ⟨⟨_, rfl⟩, ⟨some ⟨B1, 0, none⟩, 1, rfl, Nat.le_refl _, by unfold maxLen; omega, row_heap h1 rfl hS1⟩, rfl, ht, by decide⟩
    | i + 2, hi, hq => simp [hSs] at hi
  · simp only [hSs, List.mem_cons, List.not_mem_nil, or_false] at hh
    rcases hh with rfl | rfl <;> decide

def ListOk (t : Ty) (w : World) (e : Ending) (w' : World) : Prop := ∃ a : Option Addr × Nat × Nat, e = .returned (.agg #[sv listName, .slice a.1 a.2.1 a.2.2]) ∧ TyIs w' (Lt w'.heap.size) (tLi t) (sv listName) (.slice a.1 a.2.1 a.2.2) ∧ Below w.heap.size w w'
theorem list_lt {t : Ty} {u v : Value} {w : World} (h : TyIs w (Lt w.heap.size) t u v) : Calls Try.prog 12 #[.agg #[u, v]] w (ListOk t w) := by
  refine (list_any t u v (Lt w.heap.size) w (fun _ h => h) h).mono ?_
  rintro e w' ⟨v', rfl, hT, hb⟩
  obtain ⟨m, a, _, rfl⟩ := hT.shape
  exact ⟨a, rfl, hT.more fun y hy => by
    rcases hy with h | h
    · exact Nat.lt_of_lt_of_le h hb.size
    · exact h.2, hb⟩
theorem leaf_lt {w : World} {n : List UInt8} (h : n.length ≤ 1000) : TyIs w (Lt w.heap.size) (.mk n []) (sv n) (.slice none 0 0) := leaf_is _ _ _ h

set_option maxHeartbeats 4000000 in
set_option maxRecDepth 100000 in
theorem awake_any (w : World) : Calls Try.prog 5 #[] w fun e w' => e = .returned (.bool true) ∧ Below w.heap.size w w' := by
  go_enter Try.func5, Try.ntmps5
  go_wp2_with fail
  refine (list_any (.mk [36, 84] []) _ _ (fun _ => False) _ (fun b h => h.elim) (leaf_is _ _ _ (by decide))).mono ?_
  rintro e w1 ⟨v, rfl, hT1, hb1⟩
  have hB1 := (hb1.block w.heap.size (by simp)).trans (alloc1 w _)
  have hsz1 := lt_of_heap hB1
  obtain ⟨m, a, hm, rfl⟩ := hT1.shape
  clear hm
  have hbw1 : Below w.heap.size w w1 := ((Below.refl _ _).alloc (Nat.le_refl _) _).trans (hb1.mono (by simp))
  have hT1 := hT1.more (S' := Lt w1.heap.size) fun b hb => by
    rcases hb with h | h
    · exact h.elim
    · exact h.2
  have HT1 := Lib.hid hT1
  have HB1 := Lib.hid hB1
  have HBW1 := Lib.hid hbw1
  clear hT1 hb1 hB1 hbw1
  go_wp2_with fail
  have hx : ∃ w2 : World, w2 = w1.alloc (.cells #[.string ⟨#[105]⟩, .slice none 0 0, .string ⟨#[83]⟩, .string ⟨#[105, 110, 116]⟩, .slice none 0 0, .string ⟨#[106]⟩, .slice (some ⟨w.heap.size, 0, none⟩) 1 1, .string ⟨#[83]⟩, sv listName, .slice a.1 a.2.1 a.2.2] 47) := ⟨_, rfl⟩
  obtain ⟨w2, hw2⟩ := hx
  have hb2 : Below w1.heap.size w1 w2 := by rw [hw2]; exact (Below.refl _ _).alloc (Nat.le_refl _) _
  have hs2 : w2.heap.size = w1.heap.size + 1 := by rw [hw2]; simp
  have hH : Hds w2 (Lt w2.heap.size) (some ⟨w1.heap.size, 0, none⟩) hSs _ := hds_awake (B1 := w.heap.size) (v := .slice a.1 a.2.1 a.2.2) ((hb2.block _ hsz1).trans HB1.out) (by rw [hw2]; exact alloc1 _ _) (by unfold Lt; omega) (by unfold Lt; omega) (HT1.out.now (Nat.le_refl _) hb2)
  have HH := Lib.hid hH
  have hbw2 : Below w.heap.size w w2 := HBW1.out.trans (hb2.mono HBW1.out.size)
  have HBW2 := Lib.hid hbw2
  rw [← hw2]
  clear hH hbw2 hw2 hb2 HT1 HB1 HBW1
  refine (list_lt (leaf_lt (n := [98, 111, 111, 108]) (by decide))).mono ?_
  rintro e w3 ⟨a3, rfl, hT3, hb3⟩
  have hH3 := HH.out.now (Nat.le_refl _) hb3
  have HBW3 := Lib.hid (HBW2.out.trans (hb3.mono HBW2.out.size))
  have HT3 := Lib.hid hT3
  have HH3 := Lib.hid hH3
  clear hT3 hb3 hH3 HH HBW2
  go_wp2_with fail
  have hsel := select_any hSs (tLi tBool) _ 2 _ _ _ w3 HH3.out HT3.out
  rw [sel_awake] at hsel
  refine hsel.mono ?_
  clear hsel
  rintro e w4 ⟨A4, n4, c4, vs4, rfl, rfl, hT4, hb4⟩
  have hH4 := HH3.out.now (Nat.le_refl _) hb4
  have HBW4 := Lib.hid (HBW3.out.trans (hb4.mono HBW3.out.size))
  have HH4 := Lib.hid hH4
  have HT4 := Lib.hid (hT4.more (S' := Lt w4.heap.size) fun b hb => hb.2)
  clear hH4 hb4 hT4 HH3 HT3 HBW3
  go_wp2_with fail
  refine (list_lt (leaf_lt (n := [105, 110, 116]) (by decide))).mono ?_
  rintro e w5 ⟨a5, rfl, hT5, hb5⟩
  have hH5 := HH4.out.now (Nat.le_refl _) hb5
  have HBW5 := Lib.hid (HBW4.out.trans (hb5.mono HBW4.out.size))
  have HT5 := Lib.hid hT5
  have HH5 := Lib.hid hH5
  have HY5 := Lib.hid ((HT4.out.keep (kept_below hb5)).more (S' := Lt w5.heap.size) fun y hy => Nat.lt_of_lt_of_le hy hb5.size)
  clear hT5 hb5 hH5 HH4 HBW4 HT4
  go_wp2_with fail
  refine (list_lt HT5.out).mono ?_
  rintro e w6 ⟨a6, rfl, hT6, hb6⟩
  have hH6 := HH5.out.now (Nat.le_refl _) hb6
  have HBW6 := Lib.hid (HBW5.out.trans (hb6.mono HBW5.out.size))
  have HT6 := Lib.hid hT6
  have HH6 := Lib.hid hH6
  have HY6 := Lib.hid ((HY5.out.keep (kept_below hb6)).more (S' := Lt w6.heap.size) fun y hy => Nat.lt_of_lt_of_le hy hb6.size)
  clear hT6 hb6 hH6 HH5 HBW5 HT5 HY5
  go_wp2_with fail
  have hho := holds_any hSs [] _ yes_few (shut_goalsIn _ _ _) gYes (self_goalsIn _ _ _) _ none 2 0 (sv [83], sv listName, .slice a6.1 a6.2.1 a6.2.2) _ w6 HH6.out (fun e => by cases e) (Row.nil _ _ _) (by decide) ⟨rfl, HT6.out⟩
  rw [yes_awake] at hho
  refine hho.mono ?_
  clear hho
  rintro e w7 ⟨rfl, hb7⟩
  have hH7 := HH6.out.now (Nat.le_refl _) hb7
  have HBW7 := Lib.hid (HBW6.out.trans (hb7.mono HBW6.out.size))
  have HH7 := Lib.hid hH7
  have HY7 := Lib.hid ((HY6.out.keep (kept_below hb7)).more (S' := Lt w7.heap.size) fun y hy => Nat.lt_of_lt_of_le hy hb7.size)
  clear hb7 hH7 HH6 HBW6 HT6 HY6
  go_wp2_with fail
  refine (list_lt (leaf_lt (n := [98, 111, 111, 108]) (by decide))).mono ?_
  rintro e w8 ⟨a8, rfl, hT8, hb8⟩
  have hH8 := HH7.out.now (Nat.le_refl _) hb8
  have HBW8 := Lib.hid (HBW7.out.trans (hb8.mono HBW7.out.size))
  have HT8 := Lib.hid hT8
  have HH8 := Lib.hid hH8
  have HY8 := Lib.hid ((HY7.out.keep (kept_below hb8)).more (S' := Lt w8.heap.size) fun y hy => Nat.lt_of_lt_of_le hy hb8.size)
  clear hT8 hb8 hH8 HH7 HBW7 HY7
  go_wp2_with fail
  have hho := holds_any hSs [] _ no_few (shut_goalsIn _ _ _) gNo (self_goalsIn _ _ _) _ none 2 0 (sv [83], sv listName, .slice a8.1 a8.2.1 a8.2.2) _ w8 HH8.out (fun e => by cases e) (Row.nil _ _ _) (by decide) ⟨rfl, HT8.out⟩
  rw [no_awake] at hho
  refine hho.mono ?_
  clear hho
  rintro e w9 ⟨rfl, hb9⟩
  have HBW9 := Lib.hid (HBW8.out.trans (hb9.mono HBW8.out.size))
  obtain ⟨ad, u, v, rfl, hS, d0, d1, hty⟩ := ((HY8.out.keep (kept_below hb9)).more (S' := Lt w9.heap.size) fun y hy => Nat.lt_of_lt_of_le hy hb9.size).at_ (i := 0) rfl
  obtain ⟨nm, a9, rfl, rfl⟩ := hty.shape
  obtain ⟨A9, c9, vs9, e1, e2, _⟩ := hty.open_
  have hnm : nm = [98, 111, 111, 108] := bs_inj (by injection e1)
  subst hnm
  clear e1 e2 hty d1 hb9 HH8 HBW8 HT8 HY8
  have hbe : ((bs [98, 111, 111, 108]).toList == [98, 111, 111, 108]) = true := by rw [Lib.toList_data, bs_data]; decide
  have d0' : w9.cell? ad = some (sv [98, 111, 111, 108]) := d0
  go_wp2
  go_ret
  exact ⟨rfl, HBW9.out⟩
end Go.Proofs.Ytiijlecidepneaa
