/-
  The walk of recompilelaw12.TraitsReads.
  Conditions: the cell of bytealg's MaxLen holds an int.
-/
import Derived.Test.YtkoddmgbpjmohaaSameGoals
import Derived.Test.YtkoddmgbpjmohaaRefGoal
import Derived.Test.YtkoddmgbpjmohaaAwake
namespace Go.Proofs.Ytkoddmgbpjmohaa
open Go.RowKit

def noGoal : Goal := ([], .mk [] [])
theorem gres_any {r : Option Goal} {w : World} {e : Ending} {w' : World} (h : GRes r w e w') :
    ∃ q : GV, e = .returned (.tuple #[.agg #[q.1, q.2.1, q.2.2], .bool r.isSome]) ∧ GlIs w' (Fr w.heap.size w'.heap.size) (r.getD noGoal) q ∧ Below w.heap.size w w' := by
  cases r with
  | none =>
    obtain ⟨rfl, hb⟩ := h
    exact ⟨(sv [], sv [], .slice none 0 0), rfl, ⟨rfl, leaf_is _ _ _ (by simp)⟩, hb⟩
  | some g => exact h

theorem one_goal {W : World} {b : Nat} {g : Goal} {u v : Value} (h : W.heap[b]? = some (.cells #[sv g.1, u, v] 28 (0, 0))) (hT : TyIs W (Lt W.heap.size) g.2 u v) : Gls W (Lt W.heap.size) (some ⟨b, 0, none⟩) [g] [(sv g.1, u, v)] := by
  refine ⟨rfl, ?_, ?_⟩
  · exact row_heap h rfl (lt_of_heap h)
  · intro i g' q hi hq
    rcases i with _ | i
    · simp at hi hq
      subst hi hq
      exact ⟨rfl, hT⟩
    · simp at hi

def textsOf (s : List UInt8) : List (List UInt8) := [s, [65, 32] ++ s, s ++ [32, 105, 110, 116], [32, 105, 110, 116], [65, 32, 32, 105, 110, 116]]

set_option maxHeartbeats 8000000 in
set_option maxRecDepth 100000 in
theorem traitsReads_any (s : List UInt8) (m : Int) (w : World) (hm : w.cell? ⟨0, 0, none⟩ = some (.int .i64 m)) (hw : 0 < w.heap.size) (hmax : s.length ≤ 9223372036854775807) :
    Calls Try.prog 3 #[.string (bs s)] w fun e w' => e = .returned (.bool true) ∧ Below w.heap.size w w' := by
  by_cases hlen : 2000 < s.length
  · have hgt : ((bs s).size : Int) > 2000 := by rw [bs_size]; omega
    clear hlen
    go_enter Try.func3, Try.ntmps3
    go_wp2_with fail
    refine (awake_any _).mono ?_
    rintro e w1 ⟨rfl, hb⟩
    go_wp2
    go_ret
    exact ⟨rfl, hb⟩
  · have hgt : ((bs s).size : Int) ≤ 2000 := by rw [bs_size]; omega
    have c1 : (⟨#[65, 32]⟩ : ByteArray) ++ bs s = bs ([65, 32] ++ s) := bs_append [65, 32] s
    have c2 : bs s ++ (⟨#[32, 105, 110, 116]⟩ : ByteArray) = bs (s ++ [32, 105, 110, 116]) := bs_append s [32, 105, 110, 116]
    go_enter Try.func3, Try.ntmps3
    have hlen2 : s.length ≤ 2000 := by omega
    go_wp2_with fail
    clear hlen hgt c1 c2
    go_loopw [20] (fun i wr => ∃ k : Nat, k ≤ 5 ∧ i = .int .i64 k ∧ wr.heap[w.heap.size]? = some (.cells #[sv s, sv (65 :: 32 :: s), sv (s ++ [32, 105, 110, 116]), sv [32, 105, 110, 116], sv [65, 32, 32, 105, 110, 116]] 9 (0, 0)) ∧ Below w.heap.size w wr) (fun i _ => 5 - (intOf i).toNat)
    case atStart => exact ⟨0, by omega, rfl, alloc1 _ _, (Below.refl _ _).alloc (Nat.le_refl _) _⟩
    case round =>
      obtain ⟨k, hk, rfl, hA, hb⟩ := hrel
      by_cases hlt : k < 5
      · obtain ⟨x, hx⟩ : ∃ x, (textsOf s)[k]? = some x := ⟨_, List.getElem?_eq_getElem (show k < (textsOf s).length from hlt)⟩
        have hxl : x.length ≤ 2006 := by
          have hm := List.mem_of_getElem? hx
          simp only [textsOf, List.mem_cons, List.not_mem_nil, or_false] at hm
          rcases hm with rfl | rfl | rfl | rfl | rfl <;> simp <;> omega
        have x0 : wr.cell? ⟨w.heap.size, k, none⟩ = some (sv x) := by
          rw [Lib.cell_of_heap hA]
          have : #[sv s, sv (65 :: 32 :: s), sv (s ++ [32, 105, 110, 116]), sv [32, 105, 110, 116], sv [65, 32, 32, 105, 110, 116]] = ((textsOf s).map sv).toArray := rfl
          rw [this, List.getElem?_toArray, List.getElem?_map, hx]
          rfl
        have hik : (0 : Int) ≤ (k : Int) ∧ (k : Int) < 5 := ⟨by omega, by omega⟩
        have hmr := (hb.cell (p := ⟨0, 0, none⟩) hw).trans hm
        have hwr : 0 < wr.heap.size := Nat.lt_of_lt_of_le hw hb.size
        have RD := Lib.hid (readGoal_any x m wr (by omega) hmr hwr)
        go_wp2_with fail
        refine RD.out.mono ?_
        intro e w1 h
        obtain ⟨q, rfl, hq, hb1⟩ := gres_any h
        clear h
        obtain ⟨q0, q1, q2⟩ := q
        obtain ⟨ht, hty⟩ := hq
        simp only at ht hty
        subst ht
        obtain ⟨un, va, rfl, rfl⟩ := hty.shape
        have hA1 := (hb1.block _ (lt_of_heap hA)).trans hA
        have RD2 := Lib.hid (refReadGoal_any x (w1.alloc (.cells #[sv ((goalOf x).getD noGoal).1, sv un, .slice va.1 va.2.1 va.2.2] 28)) (by omega))
        have hbA : Below w.heap.size w w1 := hb.trans (hb1.mono hb.size)
        go_wp2_with fail
        refine RD2.out.mono ?_
        intro e w2 h
        obtain ⟨p, rfl, hp, hb2⟩ := gres_any h
        clear h
        obtain ⟨p0, p1, p2⟩ := p
        obtain ⟨ht2, hty2⟩ := hp
        simp only at ht2 hty2
        subst ht2
        obtain ⟨un', va', rfl, rfl⟩ := hty2.shape
        have hbB : Below w1.heap.size w1 (w1.alloc (.cells #[sv ((goalOf x).getD noGoal).1, sv un, .slice va.1 va.2.1 va.2.2] 28)) := (Below.refl _ _).alloc (Nat.le_refl _) _
        have hb12 : Below w1.heap.size w1 w2 := hbB.trans (hb2.mono hbB.size)
        have hX2 : w2.heap[w1.heap.size]? = some (.cells #[sv ((goalOf x).getD noGoal).1, sv un, .slice va.1 va.2.1 va.2.2] 28 (0, 0)) := (hb2.block _ (by simp)).trans (alloc1 w1 _)
        have hx2 := lt_of_heap hX2
        have b0 : w2.cell? ⟨w1.heap.size, 0, none⟩ = some (sv ((goalOf x).getD noGoal).1) := (Lib.cell_of_heap hX2 _).trans rfl
        have b1 : w2.cell? ⟨w1.heap.size, 1, none⟩ = some (sv un) := (Lib.cell_of_heap hX2 _).trans rfl
        have b2 : w2.cell? ⟨w1.heap.size, 2, none⟩ = some (.slice va.1 va.2.1 va.2.2) := (Lib.cell_of_heap hX2 _).trans rfl
        have hT5 : Below w2.heap.size w2 (((w2.alloc (.cells #[sv ((goalOf x).getD noGoal).1, sv un', .slice va'.1 va'.2.1 va'.2.2] 28)).alloc (.cells #[sv ((goalOf x).getD noGoal).1, sv un, .slice va.1 va.2.1 va.2.2] 28)).alloc (.cells #[sv ((goalOf x).getD noGoal).1, sv un', .slice va'.1 va'.2.1 va'.2.2] 28)) := (((Below.refl _ _).alloc (Nat.le_refl _) _).alloc (by simp) _).alloc (by simp; omega) _
        have hp5 : (((w2.alloc (.cells #[sv ((goalOf x).getD noGoal).1, sv un', .slice va'.1 va'.2.1 va'.2.2] 28)).alloc (.cells #[sv ((goalOf x).getD noGoal).1, sv un, .slice va.1 va.2.1 va.2.2] 28)).alloc (.cells #[sv ((goalOf x).getD noGoal).1, sv un', .slice va'.1 va'.2.1 va'.2.2] 28)).heap[w2.heap.size + 1]? = some (.cells #[sv ((goalOf x).getD noGoal).1, sv un, .slice va.1 va.2.1 va.2.2] 28 (0, 0)) := by
          rw [heap_alloc_old _ _ (by simp)]
          have := alloc1 (w2.alloc (.cells #[sv ((goalOf x).getD noGoal).1, sv un', .slice va'.1 va'.2.1 va'.2.2] 28)) (.cells #[sv ((goalOf x).getD noGoal).1, sv un, .slice va.1 va.2.1 va.2.2] 28)
          simpa using this
        have hq5 : (((w2.alloc (.cells #[sv ((goalOf x).getD noGoal).1, sv un', .slice va'.1 va'.2.1 va'.2.2] 28)).alloc (.cells #[sv ((goalOf x).getD noGoal).1, sv un, .slice va.1 va.2.1 va.2.2] 28)).alloc (.cells #[sv ((goalOf x).getD noGoal).1, sv un', .slice va'.1 va'.2.1 va'.2.2] 28)).heap[w2.heap.size + 1 + 1]? = some (.cells #[sv ((goalOf x).getD noGoal).1, sv un', .slice va'.1 va'.2.1 va'.2.2] 28 (0, 0)) := by
          have := alloc1 ((w2.alloc (.cells #[sv ((goalOf x).getD noGoal).1, sv un', .slice va'.1 va'.2.1 va'.2.2] 28)).alloc (.cells #[sv ((goalOf x).getD noGoal).1, sv un, .slice va.1 va.2.1 va.2.2] 28)) (.cells #[sv ((goalOf x).getD noGoal).1, sv un', .slice va'.1 va'.2.1 va'.2.2] 28)
          simpa using this
        have hg1 := one_goal hp5 (((hty.more (S' := Lt w1.heap.size) fun y hy => hy.2).now (Nat.le_refl _) (hb12.trans (hT5.mono hb12.size))))
        have hg2 := one_goal hq5 (((hty2.more (S' := Lt w2.heap.size) fun y hy => hy.2).now (Nat.le_refl _) hT5))
        have SG := Lib.hid (sameGoals_any [(goalOf x).getD noGoal] [(goalOf x).getD noGoal] _ _ 1 1 _ _ _ hg1 hg2 (by simp))
        clear hp5 hq5 hg1 hg2
        have hneq : ((goalOf x).isSome != (goalOf x).isSome) = false := by simp
        have hb15 : Below w1.heap.size w1 (((w2.alloc (.cells #[sv ((goalOf x).getD noGoal).1, sv un', .slice va'.1 va'.2.1 va'.2.2] 28)).alloc (.cells #[sv ((goalOf x).getD noGoal).1, sv un, .slice va.1 va.2.1 va.2.2] 28)).alloc (.cells #[sv ((goalOf x).getD noGoal).1, sv un', .slice va'.1 va'.2.1 va'.2.2] 28)) := hb12.trans (hT5.mono hb12.size)
        have HTY := Lib.hid hty
        have hX5 := (hT5.block _ hx2).trans hX2
        clear hty hty2 hb2 hX2
        go_wp2_with fail
        refine SG.out.mono ?_
        rintro e w3 ⟨r, rfl, hr, hb3⟩
        obtain rfl : r = true := hr.2 trivial
        have hX3 := (hb3.block _ (by simp; omega)).trans hX5
        have hx3 := lt_of_heap hX3
        have hb13 : Below w1.heap.size w1 w3 := hb15.trans (hb3.mono hb15.size)
        have d0 : w3.cell? ⟨w1.heap.size, 0, none⟩ = some (sv ((goalOf x).getD noGoal).1) := (Lib.cell_of_heap hX3 _).trans rfl
        have d1 : w3.cell? ⟨w1.heap.size, 1, none⟩ = some (sv un) := (Lib.cell_of_heap hX3 _).trans rfl
        have d2 : w3.cell? ⟨w1.heap.size, 2, none⟩ = some (.slice va.1 va.2.1 va.2.2) := (Lib.cell_of_heap hX3 _).trans rfl
        have hA3 := (hb13.block _ (lt_of_heap hA1)).trans hA1
        clear hr hb3 hX3 hX5 hb15 hb12 hbB hT5
        cases hgo : goalOf x with
        | none =>
          rw [hgo] at d0
          go_wp2_with fail
          refine ⟨⟨k + 1, by omega, by go_num, hA3, hbA.trans (hb13.mono hbA.size)⟩, ?_⟩
          simp [intOf]
          omega
        | some g =>
          have hpr := goalOf_prn hgo
          rw [hgo] at d0 HTY
          simp only [Option.getD_some] at d0 HTY
          go_wp2_with fail
          refine (goal_any g (sv g.1, sv un, .slice va.1 va.2.1 va.2.2) w3 ⟨rfl, (HTY.out.more (S' := Lt w1.heap.size) fun y hy => hy.2).now (Nat.le_refl _) hb13⟩ (by omega) (by omega)).mono ?_
          rw [hpr.1]
          rintro e w4 ⟨rfl, hb4⟩
          have hA4 := (hb4.block _ (lt_of_heap hA3)).trans hA3
          have hb14 : Below w1.heap.size w1 w4 := hb13.trans (hb4.mono hb13.size)
          have hbn : ((bs x).toList != (bs x).toList) = false := by simp
          go_wp2_with fail
          refine ⟨⟨k + 1, by omega, by go_num, hA4, hbA.trans (hb14.mono hbA.size)⟩, ?_⟩
          simp [intOf]
          omega
      · obtain rfl : k = 5 := by omega
        go_wp2_with fail
        refine (awake_any _).mono ?_
        rintro e w1 ⟨rfl, hb1⟩
        go_wp2
        go_ret
        exact ⟨rfl, hb.trans (hb1.mono hb.size)⟩
end Go.Proofs.Ytkoddmgbpjmohaa
