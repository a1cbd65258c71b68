/-
  The walk of recompilelaw12.plain.
  Conditions: the dice lie in memory; the depth is at most 3.
-/
import Derived.Test.YtllodnlkphapgaaDoorMade
namespace Go.Proofs.YtllodnlkphapgaaDoor
open Go.RowKit

theorem pl_close {w w1 w2 : World} {dd : Nat} {xs : List Int} (hD : DiceAt w1 dd xs) (hK : Kp (fun y => y = dd) w w1) (hlt : dd < w.heap.size) (hg : w1.grownBy w2 (some w.heap.size)) : Thrown dd xs w w2 :=
  ⟨hD.keep (M := fun y => y = w.heap.size) ⟨hg.os, hg.tape, hg.output, hg.size, fun x hx hm => hg.block x hx (fun e => hm (Option.some.inj e))⟩ (fun y hy => by subst hy; exact hlt), hK.grown hg fun r hr hrl => by cases hr; omega⟩
theorem grownTwo (w : World) (b : Nat) (x y : Value) : w.grownBy ((w.setCell ⟨b, 0, none⟩ x).setCell ⟨b, 1, none⟩ y) (some b) := grownAgain grownSet grownSet
theorem pl_ty {w w2 : World} {b : Nat} {S : Nat → Prop} {t : Ty} {u v : Value} (h : TyIs w S t u v) (hg : w.grownBy w2 (some b)) (hS : ∀ y, S y → y < w.heap.size ∧ b < y) : TyIs w2 (Fr b w2.heap.size) t u v :=
  (h.keep (keptGrown hg fun y hy => ⟨(hS y hy).1, fun e => by have := (hS y hy).2; have := Option.some.inj e; omega⟩)).more fun y hy => ⟨by have := (hS y hy).2; omega, Nat.lt_of_lt_of_le (hS y hy).1 hg.size⟩

theorem row_lit (w : World) (cs : Array Value) (T : TypeId) (ls : List (List UInt8)) (h : cs.toList = ls.map sv) (dd : Nat) (hd : dd < w.heap.size) : Row (w.alloc (.cells cs T)) (fun y => y < (w.alloc (.cells cs T)).heap.size ∧ y ≠ dd) (some ⟨w.heap.size, 0, none⟩) (ls.map sv) :=
  row_heap (alloc1 _ _) h ⟨by simp, by omega⟩

set_option maxHeartbeats 8000000 in
theorem plain_any (dd : Nat) (xs : List Int) : ∀ (d : Nat) (i : Int) (b : Bool) (w : World), i = d → d ≤ 3 → DiceAt w dd xs → Calls Tryd.prog 9 #[.pointer (some ⟨dd, 0, none⟩), .int .i64 i, .bool b] w (PlRes d dd xs w) := by
  intro d
  induction d with | zero => ?_ | succ d ih => ?_
  case zero =>
    intro i b w hi hd3 hD
    have hdl := hD.lt
    have hR : (w.alloc (.cells #[.string ⟨#[]⟩, .slice none 0 0] 31)).heap[w.heap.size]? = some (.cells #[.string ⟨#[]⟩, .slice none 0 0] 31 (0, 0)) := alloc1 _ _
    have hK : Kp (fun y => y = dd) w (w.alloc (.cells #[.string ⟨#[]⟩, .slice none 0 0] 31)) := (Kp.refl _ _).alloc _
    have hD0 := hD.below ((Below.refl _ _).alloc (Nat.le_refl _) (.cells #[.string ⟨#[]⟩, .slice none 0 0] 31))
    have HR0 := Lib.hid hR
    have HK0 := Lib.hid hK
    have HD0 := Lib.hid hD0
    clear hR hK hD0 hD
    subst hi
    cases b with
    | false =>
      go_enter Tryd.func9, Tryd.ntmps9
      go_wp2_with fail
      refine (next_any 5 dd xs _ (by decide) (by decide) HD0.out).mono ?_
      rintro e w1 ⟨k, hk, rfl, hD1, hK1⟩
      have hR1 := hK1.heap HR0.out (by omega)
      have r0 : w1.cell? ⟨w.heap.size, 0, none⟩ = some (.string ⟨#[]⟩) := (Lib.cell_of_heap hR1 _).trans rfl
      have r1 : w1.cell? ⟨w.heap.size, 1, none⟩ = some (.slice none 0 0) := (Lib.cell_of_heap hR1 _).trans rfl
      have g0 : w1.frozen? ⟨w.heap.size, 0, none⟩ = false := Lib.frozen_of_heap hR1 0
      have g1 : w1.frozen? ⟨w.heap.size, 1, none⟩ = false := Lib.frozen_of_heap hR1 1
      have hK01 := HK0.out.one hK1
      have HD1 := Lib.hid hD1
      have HK1 := Lib.hid hK01
      have HR1 := Lib.hid hR1
      have HR1A : Hid (∀ x y : Value, ((w1.setCell ⟨w.heap.size, 0, none⟩ x).setCell ⟨w.heap.size, 1, none⟩ y).cell? ⟨w.heap.size, 0, none⟩ = some x) := Lib.hid fun x y => (Lib.cell_of_heap (setCell_heap (setCell_heap hR1)) _).trans rfl
      have HR1B : Hid (∀ x y : Value, ((w1.setCell ⟨w.heap.size, 0, none⟩ x).setCell ⟨w.heap.size, 1, none⟩ y).cell? ⟨w.heap.size, 1, none⟩ = some y) := Lib.hid fun x y => (Lib.cell_of_heap (setCell_heap (setCell_heap hR1)) _).trans rfl
      clear hD1 hK1 hK01 hR1
      have hk5 : k = 0 ∨ k = 1 ∨ k = 2 ∨ k = 3 ∨ k = 4 := by omega
      rcases hk5 with rfl | rfl | rfl | rfl | rfl
      · skip
        go_wp2
        refine bodyPost_ret (v := .agg #[sv [105, 110, 116], .slice none 0 0]) (by simp [results, Tryd.results9, go_sem, HR1A.out, HR1B.out]; rfl) rfl ?_
        exact ⟨.mk [105, 110, 116] [], _, _, rfl, plOk_leaf _ _ (by decide), leaf_is _ _ _ (by decide), pl_close HD1.out HK1.out hdl (grownTwo _ _ _ _)⟩
      · skip
        go_wp2
        refine bodyPost_ret (v := .agg #[sv [105, 110, 116], .slice none 0 0]) (by simp [results, Tryd.results9, go_sem, HR1A.out, HR1B.out]; rfl) rfl ?_
        exact ⟨.mk [105, 110, 116] [], _, _, rfl, plOk_leaf _ _ (by decide), leaf_is _ _ _ (by decide), pl_close HD1.out HK1.out hdl (grownTwo _ _ _ _)⟩
      · skip
        go_wp2
        refine bodyPost_ret (v := .agg #[sv [98, 111, 111, 108], .slice none 0 0]) (by simp [results, Tryd.results9, go_sem, HR1A.out, HR1B.out]; rfl) rfl ?_
        exact ⟨.mk [98, 111, 111, 108] [], _, _, rfl, plOk_leaf _ _ (by decide), leaf_is _ _ _ (by decide), pl_close HD1.out HK1.out hdl (grownTwo _ _ _ _)⟩
      · skip
        go_wp2_with fail
        refine (of_any [[101, 114, 114, 111, 114], [36, 65], [36, 66], [36], [117, 110, 105, 116]] (some ⟨w1.heap.size, 0, none⟩) 5 dd xs _ (by decide) (by decide) (HD1.out.below ((Below.refl _ _).alloc (Nat.le_refl _) _)) (row_lit w1 #[.string ⟨#[101,114,114,111,114]⟩, .string ⟨#[36,65]⟩, .string ⟨#[36,66]⟩, .string ⟨#[36]⟩, .string ⟨#[117,110,105,116]⟩] _ [[101, 114, 114, 111, 114], [36, 65], [36, 66], [36], [117, 110, 105, 116]] rfl dd (Nat.lt_of_lt_of_le hdl HK1.out.size))).mono ?_
        rintro e w2 ⟨x, hx, rfl, hD2, hK2⟩
        have hxn : PlName x := by
          simp at hx
          rcases hx with rfl | rfl | rfl | rfl | rfl <;> decide
        have hxl : x.length ≤ 1000 := by
          simp at hx
          rcases hx with rfl | rfl | rfl | rfl | rfl <;> decide
        have hK3 : Kp (fun y => y = dd) w w2 := (HK1.out.alloc _).one hK2
        have hR2 := hK2.heap ((heap_alloc_old w1 (.cells #[.string ⟨#[101,114,114,111,114]⟩, .string ⟨#[36,65]⟩, .string ⟨#[36,66]⟩, .string ⟨#[36]⟩, .string ⟨#[117,110,105,116]⟩] 9) (lt_of_heap HR1.out)).trans HR1.out) (by omega)
        have r0 : w2.cell? ⟨w.heap.size, 0, none⟩ = some (.string ⟨#[]⟩) := (Lib.cell_of_heap hR2 _).trans rfl
        have r1 : w2.cell? ⟨w.heap.size, 1, none⟩ = some (.slice none 0 0) := (Lib.cell_of_heap hR2 _).trans rfl
        have g0 : w2.frozen? ⟨w.heap.size, 0, none⟩ = false := Lib.frozen_of_heap hR2 0
        have g1 : w2.frozen? ⟨w.heap.size, 1, none⟩ = false := Lib.frozen_of_heap hR2 1
        have HD2 := Lib.hid hD2
        have HK3 := Lib.hid hK3
        have HR2 := Lib.hid (setCell_heap (o := 1) (v := .slice none 0 0) (setCell_heap (o := 0) (v := sv x) hR2))
        have HXN := Lib.hid hxn
        have HXL := Lib.hid hxl
        clear hD2 hK2 hK3 hR2 hxn hxl hx
        have c0 : ((w2.setCell ⟨w.heap.size, 0, none⟩ (sv x)).setCell ⟨w.heap.size, 1, none⟩ (.slice none 0 0)).cell? ⟨w.heap.size, 0, none⟩ = some (sv x) := (Lib.cell_of_heap HR2.out _).trans rfl
        have c1 : ((w2.setCell ⟨w.heap.size, 0, none⟩ (sv x)).setCell ⟨w.heap.size, 1, none⟩ (.slice none 0 0)).cell? ⟨w.heap.size, 1, none⟩ = some (.slice none 0 0) := (Lib.cell_of_heap HR2.out _).trans rfl
        go_wp2
        refine bodyPost_ret (v := .agg #[sv x, .slice none 0 0]) (by simp [results, Tryd.results9, go_sem, c0, c1]) rfl ?_
        exact ⟨.mk x [], _, _, rfl, plOk_leaf _ _ HXN.out, leaf_is _ _ _ HXL.out, pl_close HD2.out HK3.out hdl (grownTwo _ _ _ _)⟩
      · skip
        go_wp2
        refine bodyPost_ret (v := .agg #[sv [105, 110, 116], .slice none 0 0]) (by simp [results, Tryd.results9, go_sem, HR1A.out, HR1B.out]; rfl) rfl ?_
        exact ⟨.mk [105, 110, 116] [], _, _, rfl, plOk_leaf _ _ (by decide), leaf_is _ _ _ (by decide), pl_close HD1.out HK1.out hdl (grownTwo _ _ _ _)⟩
    | true =>
      go_enter Tryd.func9, Tryd.ntmps9
      go_wp2_with fail
      refine (next_any 3 dd xs _ (by decide) (by decide) HD0.out).mono ?_
      rintro e wa ⟨ka, hka, rfl, hDa, hKa⟩
      have hRa := hKa.heap HR0.out (by omega)
      have hKa := HK0.out.one hKa
      clear HR0 HK0 HD0
      have HR0 := Lib.hid hRa
      have HK0 := Lib.hid hKa
      have HD0 := Lib.hid hDa
      clear hRa hKa hDa
      by_cases hk0 : ka = 0
      · subst hk0
        have r0 : wa.cell? ⟨w.heap.size, 0, none⟩ = some (.string ⟨#[]⟩) := (Lib.cell_of_heap HR0.out _).trans rfl
        go_wp2_with fail
        refine (of_any [[36, 84], [36, 85]] (some ⟨wa.heap.size, 0, none⟩) 2 dd xs _ (by decide) (by decide) (HD0.out.below ((Below.refl _ _).alloc (Nat.le_refl _) _)) (row_lit wa #[.string ⟨#[36,84]⟩, .string ⟨#[36,85]⟩] _ [[36, 84], [36, 85]] rfl dd (Nat.lt_of_lt_of_le hdl HK0.out.size))).mono ?_
        rintro e w2 ⟨x, hx, rfl, hD2, hK2⟩
        have hxn : PlName x := by
          simp at hx
          rcases hx with rfl | rfl <;> decide
        have hxl : x.length ≤ 1000 := by
          simp at hx
          rcases hx with rfl | rfl <;> decide
        have hK3 : Kp (fun y => y = dd) w w2 := (HK0.out.alloc _).one hK2
        have hR2 := hK2.heap ((heap_alloc_old wa (.cells #[.string ⟨#[36,84]⟩, .string ⟨#[36,85]⟩] 9) (lt_of_heap HR0.out)).trans HR0.out) (by omega)
        have r0 : w2.cell? ⟨w.heap.size, 0, none⟩ = some (.string ⟨#[]⟩) := (Lib.cell_of_heap hR2 _).trans rfl
        have r1 : w2.cell? ⟨w.heap.size, 1, none⟩ = some (.slice none 0 0) := (Lib.cell_of_heap hR2 _).trans rfl
        have g0 : w2.frozen? ⟨w.heap.size, 0, none⟩ = false := Lib.frozen_of_heap hR2 0
        have g1 : w2.frozen? ⟨w.heap.size, 1, none⟩ = false := Lib.frozen_of_heap hR2 1
        have HD2 := Lib.hid hD2
        have HK3 := Lib.hid hK3
        have HR2 := Lib.hid (setCell_heap (o := 1) (v := .slice none 0 0) (setCell_heap (o := 0) (v := sv x) hR2))
        have HXN := Lib.hid hxn
        have HXL := Lib.hid hxl
        clear hD2 hK2 hK3 hR2 hxn hxl hx
        have c0 : ((w2.setCell ⟨w.heap.size, 0, none⟩ (sv x)).setCell ⟨w.heap.size, 1, none⟩ (.slice none 0 0)).cell? ⟨w.heap.size, 0, none⟩ = some (sv x) := (Lib.cell_of_heap HR2.out _).trans rfl
        have c1 : ((w2.setCell ⟨w.heap.size, 0, none⟩ (sv x)).setCell ⟨w.heap.size, 1, none⟩ (.slice none 0 0)).cell? ⟨w.heap.size, 1, none⟩ = some (.slice none 0 0) := (Lib.cell_of_heap HR2.out _).trans rfl
        go_wp2
        refine bodyPost_ret (v := .agg #[sv x, .slice none 0 0]) (by simp [results, Tryd.results9, go_sem, c0, c1]) rfl ?_
        exact ⟨.mk x [], _, _, rfl, plOk_leaf _ _ HXN.out, leaf_is _ _ _ HXL.out, pl_close HD2.out HK3.out hdl (grownTwo _ _ _ _)⟩
      · have hke : ((ka : Int) == 0) = false := by simp; omega
        go_wp2_with fail
        refine (next_any 5 dd xs _ (by decide) (by decide) HD0.out).mono ?_
        rintro e w1 ⟨k, hk, rfl, hD1, hK1⟩
        have hR1 := hK1.heap HR0.out (by omega)
        have r0 : w1.cell? ⟨w.heap.size, 0, none⟩ = some (.string ⟨#[]⟩) := (Lib.cell_of_heap hR1 _).trans rfl
        have r1 : w1.cell? ⟨w.heap.size, 1, none⟩ = some (.slice none 0 0) := (Lib.cell_of_heap hR1 _).trans rfl
        have g0 : w1.frozen? ⟨w.heap.size, 0, none⟩ = false := Lib.frozen_of_heap hR1 0
        have g1 : w1.frozen? ⟨w.heap.size, 1, none⟩ = false := Lib.frozen_of_heap hR1 1
        have hK01 := HK0.out.one hK1
        have HD1 := Lib.hid hD1
        have HK1 := Lib.hid hK01
        have HR1 := Lib.hid hR1
        have HR1A : Hid (∀ x y : Value, ((w1.setCell ⟨w.heap.size, 0, none⟩ x).setCell ⟨w.heap.size, 1, none⟩ y).cell? ⟨w.heap.size, 0, none⟩ = some x) := Lib.hid fun x y => (Lib.cell_of_heap (setCell_heap (setCell_heap hR1)) _).trans rfl
        have HR1B : Hid (∀ x y : Value, ((w1.setCell ⟨w.heap.size, 0, none⟩ x).setCell ⟨w.heap.size, 1, none⟩ y).cell? ⟨w.heap.size, 1, none⟩ = some y) := Lib.hid fun x y => (Lib.cell_of_heap (setCell_heap (setCell_heap hR1)) _).trans rfl
        clear hD1 hK1 hK01 hR1
        have hk5 : k = 0 ∨ k = 1 ∨ k = 2 ∨ k = 3 ∨ k = 4 := by omega
        rcases hk5 with rfl | rfl | rfl | rfl | rfl
        · skip
          go_wp2
          refine bodyPost_ret (v := .agg #[sv [105, 110, 116], .slice none 0 0]) (by simp [results, Tryd.results9, go_sem, HR1A.out, HR1B.out]; rfl) rfl ?_
          exact ⟨.mk [105, 110, 116] [], _, _, rfl, plOk_leaf _ _ (by decide), leaf_is _ _ _ (by decide), pl_close HD1.out HK1.out hdl (grownTwo _ _ _ _)⟩
        · skip
          go_wp2
          refine bodyPost_ret (v := .agg #[sv [105, 110, 116], .slice none 0 0]) (by simp [results, Tryd.results9, go_sem, HR1A.out, HR1B.out]; rfl) rfl ?_
          exact ⟨.mk [105, 110, 116] [], _, _, rfl, plOk_leaf _ _ (by decide), leaf_is _ _ _ (by decide), pl_close HD1.out HK1.out hdl (grownTwo _ _ _ _)⟩
        · skip
          go_wp2
          refine bodyPost_ret (v := .agg #[sv [98, 111, 111, 108], .slice none 0 0]) (by simp [results, Tryd.results9, go_sem, HR1A.out, HR1B.out]; rfl) rfl ?_
          exact ⟨.mk [98, 111, 111, 108] [], _, _, rfl, plOk_leaf _ _ (by decide), leaf_is _ _ _ (by decide), pl_close HD1.out HK1.out hdl (grownTwo _ _ _ _)⟩
        · skip
          go_wp2_with fail
          refine (of_any [[101, 114, 114, 111, 114], [36, 65], [36, 66], [36], [117, 110, 105, 116]] (some ⟨w1.heap.size, 0, none⟩) 5 dd xs _ (by decide) (by decide) (HD1.out.below ((Below.refl _ _).alloc (Nat.le_refl _) _)) (row_lit w1 #[.string ⟨#[101,114,114,111,114]⟩, .string ⟨#[36,65]⟩, .string ⟨#[36,66]⟩, .string ⟨#[36]⟩, .string ⟨#[117,110,105,116]⟩] _ [[101, 114, 114, 111, 114], [36, 65], [36, 66], [36], [117, 110, 105, 116]] rfl dd (Nat.lt_of_lt_of_le hdl HK1.out.size))).mono ?_
          rintro e w2 ⟨x, hx, rfl, hD2, hK2⟩
          have hxn : PlName x := by
            simp at hx
            rcases hx with rfl | rfl | rfl | rfl | rfl <;> decide
          have hxl : x.length ≤ 1000 := by
            simp at hx
            rcases hx with rfl | rfl | rfl | rfl | rfl <;> decide
          have hK3 : Kp (fun y => y = dd) w w2 := (HK1.out.alloc _).one hK2
          have hR2 := hK2.heap ((heap_alloc_old w1 (.cells #[.string ⟨#[101,114,114,111,114]⟩, .string ⟨#[36,65]⟩, .string ⟨#[36,66]⟩, .string ⟨#[36]⟩, .string ⟨#[117,110,105,116]⟩] 9) (lt_of_heap HR1.out)).trans HR1.out) (by omega)
          have r0 : w2.cell? ⟨w.heap.size, 0, none⟩ = some (.string ⟨#[]⟩) := (Lib.cell_of_heap hR2 _).trans rfl
          have r1 : w2.cell? ⟨w.heap.size, 1, none⟩ = some (.slice none 0 0) := (Lib.cell_of_heap hR2 _).trans rfl
          have g0 : w2.frozen? ⟨w.heap.size, 0, none⟩ = false := Lib.frozen_of_heap hR2 0
          have g1 : w2.frozen? ⟨w.heap.size, 1, none⟩ = false := Lib.frozen_of_heap hR2 1
          have HD2 := Lib.hid hD2
          have HK3 := Lib.hid hK3
          have HR2 := Lib.hid (setCell_heap (o := 1) (v := .slice none 0 0) (setCell_heap (o := 0) (v := sv x) hR2))
          have HXN := Lib.hid hxn
          have HXL := Lib.hid hxl
          clear hD2 hK2 hK3 hR2 hxn hxl hx
          have c0 : ((w2.setCell ⟨w.heap.size, 0, none⟩ (sv x)).setCell ⟨w.heap.size, 1, none⟩ (.slice none 0 0)).cell? ⟨w.heap.size, 0, none⟩ = some (sv x) := (Lib.cell_of_heap HR2.out _).trans rfl
          have c1 : ((w2.setCell ⟨w.heap.size, 0, none⟩ (sv x)).setCell ⟨w.heap.size, 1, none⟩ (.slice none 0 0)).cell? ⟨w.heap.size, 1, none⟩ = some (.slice none 0 0) := (Lib.cell_of_heap HR2.out _).trans rfl
          go_wp2
          refine bodyPost_ret (v := .agg #[sv x, .slice none 0 0]) (by simp [results, Tryd.results9, go_sem, c0, c1]) rfl ?_
          exact ⟨.mk x [], _, _, rfl, plOk_leaf _ _ HXN.out, leaf_is _ _ _ HXL.out, pl_close HD2.out HK3.out hdl (grownTwo _ _ _ _)⟩
        · skip
          go_wp2
          refine bodyPost_ret (v := .agg #[sv [105, 110, 116], .slice none 0 0]) (by simp [results, Tryd.results9, go_sem, HR1A.out, HR1B.out]; rfl) rfl ?_
          exact ⟨.mk [105, 110, 116] [], _, _, rfl, plOk_leaf _ _ (by decide), leaf_is _ _ _ (by decide), pl_close HD1.out HK1.out hdl (grownTwo _ _ _ _)⟩
  case succ =>
    intro i b w hi hd3 hD
    have hdl := hD.lt
    have hR : (w.alloc (.cells #[.string ⟨#[]⟩, .slice none 0 0] 31)).heap[w.heap.size]? = some (.cells #[.string ⟨#[]⟩, .slice none 0 0] 31 (0, 0)) := alloc1 _ _
    have hK : Kp (fun y => y = dd) w (w.alloc (.cells #[.string ⟨#[]⟩, .slice none 0 0] 31)) := (Kp.refl _ _).alloc _
    have hD0 := hD.below ((Below.refl _ _).alloc (Nat.le_refl _) (.cells #[.string ⟨#[]⟩, .slice none 0 0] 31))
    have HR0 := Lib.hid hR
    have HK0 := Lib.hid hK
    have HD0 := Lib.hid hD0
    clear hR hK hD0 hD
    have hi0 : (0 : Int) < i := by omega
    have hi4 : i ≤ 4 := by omega
    cases b with
    | false =>
      go_enter Tryd.func9, Tryd.ntmps9
      go_wp2_with fail
      refine (next_any 5 dd xs _ (by decide) (by decide) HD0.out).mono ?_
      rintro e w1 ⟨k, hk, rfl, hD1, hK1⟩
      have hR1 := hK1.heap HR0.out (by omega)
      have r0 : w1.cell? ⟨w.heap.size, 0, none⟩ = some (.string ⟨#[]⟩) := (Lib.cell_of_heap hR1 _).trans rfl
      have r1 : w1.cell? ⟨w.heap.size, 1, none⟩ = some (.slice none 0 0) := (Lib.cell_of_heap hR1 _).trans rfl
      have g0 : w1.frozen? ⟨w.heap.size, 0, none⟩ = false := Lib.frozen_of_heap hR1 0
      have g1 : w1.frozen? ⟨w.heap.size, 1, none⟩ = false := Lib.frozen_of_heap hR1 1
      have hK01 := HK0.out.one hK1
      have HD1 := Lib.hid hD1
      have HK1 := Lib.hid hK01
      have HR1 := Lib.hid hR1
      have HR1A : Hid (∀ x y : Value, ((w1.setCell ⟨w.heap.size, 0, none⟩ x).setCell ⟨w.heap.size, 1, none⟩ y).cell? ⟨w.heap.size, 0, none⟩ = some x) := Lib.hid fun x y => (Lib.cell_of_heap (setCell_heap (setCell_heap hR1)) _).trans rfl
      have HR1B : Hid (∀ x y : Value, ((w1.setCell ⟨w.heap.size, 0, none⟩ x).setCell ⟨w.heap.size, 1, none⟩ y).cell? ⟨w.heap.size, 1, none⟩ = some y) := Lib.hid fun x y => (Lib.cell_of_heap (setCell_heap (setCell_heap hR1)) _).trans rfl
      clear hD1 hK1 hK01 hR1
      have hk5 : k = 0 ∨ k = 1 ∨ k = 2 ∨ k = 3 ∨ k = 4 := by omega
      rcases hk5 with rfl | rfl | rfl | rfl | rfl
      · skip
        clear r0 r1 g0 g1
        have hlt1 := lt_of_heap HR1.out
        go_wp2_with fail
        refine (ih (d : Int) false w1 rfl (by omega) HD1.out).mono ?_
        rintro e w3 ⟨t, u, v, rfl, hP, hT, hD3, hK3⟩
        obtain ⟨un, va, rfl, rfl⟩ := hT.shape
        have hR3 := hK3.heap HR1.out (by omega)
        have hsz3 := hK3.size
        have hK03 := HK1.out.one hK3
        have HP := Lib.hid hP
        have HT := Lib.hid hT
        have HD3 := Lib.hid hD3
        have HK3 := Lib.hid hK03
        have HR3 := Lib.hid hR3
        clear hP hT hD3 hK3 hK03 hR3
        go_wp2_with fail
        refine (list_any t _ _ (Fr w1.heap.size w3.heap.size) w3 (fun b hb => hb.2) HT.out).mono ?_
        rintro e w4 ⟨v', rfl, hT4, hb4⟩
        obtain ⟨n4, a4, hn4, rfl⟩ := hT4.shape
        clear hn4
        have hRw4 := (hb4.block _ (lt_of_heap HR3.out)).trans HR3.out
        have r0 : w4.cell? ⟨w.heap.size, 0, none⟩ = some (.string ⟨#[]⟩) := (Lib.cell_of_heap hRw4 _).trans rfl
        have r1 : w4.cell? ⟨w.heap.size, 1, none⟩ = some (.slice none 0 0) := (Lib.cell_of_heap hRw4 _).trans rfl
        have g0 : w4.frozen? ⟨w.heap.size, 0, none⟩ = false := Lib.frozen_of_heap hRw4 0
        have g1 : w4.frozen? ⟨w.heap.size, 1, none⟩ = false := Lib.frozen_of_heap hRw4 1
        have C0 : Hid (∀ x y : Value, ((w4.setCell ⟨w.heap.size, 0, none⟩ x).setCell ⟨w.heap.size, 1, none⟩ y).cell? ⟨w.heap.size, 0, none⟩ = some x) := Lib.hid fun x y => (Lib.cell_of_heap (setCell_heap (setCell_heap hRw4)) _).trans rfl
        have C1 : Hid (∀ x y : Value, ((w4.setCell ⟨w.heap.size, 0, none⟩ x).setCell ⟨w.heap.size, 1, none⟩ y).cell? ⟨w.heap.size, 1, none⟩ = some y) := Lib.hid fun x y => (Lib.cell_of_heap (setCell_heap (setCell_heap hRw4)) _).trans rfl
        have HT4 := Lib.hid hT4
        have HB4 := Lib.hid hb4
        have hsz4 := hb4.size
        clear hT4 hb4 hRw4
        go_wp2
        refine bodyPost_ret (v := .agg #[sv listName, .slice a4.1 a4.2.1 a4.2.2]) (by simp [results, Tryd.results9, go_sem, C0.out, C1.out]) rfl ?_
        exact ⟨.mk listName [t], _, _, rfl, plOk_one HP.out (by decide), pl_ty HT4.out (grownTwo _ _ _ _) (fun y hy => by rcases hy with ⟨h1, h2⟩ | ⟨h1, h2⟩ <;> omega), pl_close (HD3.out.below HB4.out) (HK3.out.below HB4.out) hdl (grownTwo _ _ _ _)⟩
      · skip
        clear r0 r1 g0 g1
        have hlt1 := lt_of_heap HR1.out
        go_wp2_with fail
        refine (ih (d : Int) false w1 rfl (by omega) HD1.out).mono ?_
        rintro e w3 ⟨t, u, v, rfl, hP, hT, hD3, hK3⟩
        obtain ⟨un, va, rfl, rfl⟩ := hT.shape
        have hR3 := hK3.heap HR1.out (by omega)
        have hsz3 := hK3.size
        have hK03 := HK1.out.one hK3
        have HP := Lib.hid hP
        have HT := Lib.hid hT
        have HD3 := Lib.hid hD3
        have HK3 := Lib.hid hK03
        have HR3 := Lib.hid hR3
        clear hP hT hD3 hK3 hK03 hR3
        go_wp2_with fail
        refine (ih (d : Int) false w3 rfl (by omega) HD3.out).mono ?_
        rintro e w4 ⟨t', u', v', rfl, hP', hT', hD4, hK4⟩
        obtain ⟨un', va', rfl, rfl⟩ := hT'.shape
        have hR4 := hK4.heap HR3.out (by omega)
        have hsz4 := hK4.size
        have hK04 := HK3.out.one hK4
        have hTk := HT.out.keep (hK4.kept fun y hy => ⟨hy.2, by have := hy.1; omega⟩)
        have HP' := Lib.hid hP'
        have HT' := Lib.hid hT'
        have HTK := Lib.hid hTk
        have HD4 := Lib.hid hD4
        have HK4 := Lib.hid hK04
        have hRW5 : (w4.alloc (.cells #[sv un, .slice va.1 va.2.1 va.2.2, sv un', .slice va'.1 va'.2.1 va'.2.2] 31)).heap[w.heap.size]? = some (.cells #[.string ⟨#[]⟩, .slice none 0 0] 31 (0, 0)) := (heap_alloc_old _ _ (lt_of_heap hR4)).trans hR4
        clear hP' hT' hTk hD4 hK4 hK04 HD3 HK3 HT
        have hT5 : TyIs (w4.alloc (.cells #[sv un, .slice va.1 va.2.1 va.2.2, sv un', .slice va'.1 va'.2.1 va'.2.2] 31)) (fun y => w1.heap.size ≤ y ∧ y < w4.heap.size + 1) (.mk pairName [t, t']) (sv pairName) (.slice (some ⟨w4.heap.size, 0, none⟩) 2 2) := by
          refine ty_lit (vs := [(sv un, .slice va.1 va.2.1 va.2.2), (sv un', .slice va'.1 va'.2.1 va'.2.2)]) (alloc1 _ _) ⟨by omega, by omega⟩ (by decide) rfl (by simp) rfl fun j s p hs hp => ?_
          match j, hs, hp with
          | 0, hs, hp =>
            simp at hs hp
            subst hs hp
            exact (HTK.out.keep ((kept_below ((Below.refl w4.heap.size w4).alloc (Nat.le_refl _) _)).sub fun y hy => by have := hy.2; unfold Lt; omega)).more fun y hy => ⟨hy.1, by have := hy.2; omega⟩
          | 1, hs, hp =>
            simp at hs hp
            subst hs hp
            exact (HT'.out.keep ((kept_below ((Below.refl w4.heap.size w4).alloc (Nat.le_refl _) _)).sub fun y hy => hy.2)).more fun y hy => ⟨by have := hy.1; omega, by have := hy.2; omega⟩
          | j + 2, hs, hp => simp at hs
        have HT5 := Lib.hid hT5
        clear hT5
        have r0 : (w4.alloc (.cells #[sv un, .slice va.1 va.2.1 va.2.2, sv un', .slice va'.1 va'.2.1 va'.2.2] 31)).cell? ⟨w.heap.size, 0, none⟩ = some (.string ⟨#[]⟩) := (Lib.cell_of_heap hRW5 _).trans rfl
        have r1 : (w4.alloc (.cells #[sv un, .slice va.1 va.2.1 va.2.2, sv un', .slice va'.1 va'.2.1 va'.2.2] 31)).cell? ⟨w.heap.size, 1, none⟩ = some (.slice none 0 0) := (Lib.cell_of_heap hRW5 _).trans rfl
        have g0 : (w4.alloc (.cells #[sv un, .slice va.1 va.2.1 va.2.2, sv un', .slice va'.1 va'.2.1 va'.2.2] 31)).frozen? ⟨w.heap.size, 0, none⟩ = false := Lib.frozen_of_heap hRW5 0
        have g1 : (w4.alloc (.cells #[sv un, .slice va.1 va.2.1 va.2.2, sv un', .slice va'.1 va'.2.1 va'.2.2] 31)).frozen? ⟨w.heap.size, 1, none⟩ = false := Lib.frozen_of_heap hRW5 1
        have C0 : Hid (∀ x y : Value, (((w4.alloc (.cells #[sv un, .slice va.1 va.2.1 va.2.2, sv un', .slice va'.1 va'.2.1 va'.2.2] 31)).setCell ⟨w.heap.size, 0, none⟩ x).setCell ⟨w.heap.size, 1, none⟩ y).cell? ⟨w.heap.size, 0, none⟩ = some x) := Lib.hid fun x y => (Lib.cell_of_heap (setCell_heap (setCell_heap hRW5)) _).trans rfl
        have C1 : Hid (∀ x y : Value, (((w4.alloc (.cells #[sv un, .slice va.1 va.2.1 va.2.2, sv un', .slice va'.1 va'.2.1 va'.2.2] 31)).setCell ⟨w.heap.size, 0, none⟩ x).setCell ⟨w.heap.size, 1, none⟩ y).cell? ⟨w.heap.size, 1, none⟩ = some y) := Lib.hid fun x y => (Lib.cell_of_heap (setCell_heap (setCell_heap hRW5)) _).trans rfl
        clear hRW5 hR4
        go_wp2
        refine bodyPost_ret (v := .agg #[sv pairName, .slice (some ⟨w4.heap.size, 0, none⟩) 2 2]) (by simp [results, Tryd.results9, go_sem, C0.out, C1.out]; rfl) rfl ?_
        exact ⟨.mk pairName [t, t'], _, _, rfl, plOk_two HP.out HP'.out (by decide), pl_ty HT5.out (grownTwo _ _ _ _) (fun y hy => by obtain ⟨h1, h2⟩ := hy; simp; omega), pl_close (HD4.out.below ((Below.refl _ _).alloc (Nat.le_refl _) _)) (HK4.out.alloc _) hdl (grownTwo _ _ _ _)⟩
      · skip
        go_wp2
        refine bodyPost_ret (v := .agg #[sv [98, 111, 111, 108], .slice none 0 0]) (by simp [results, Tryd.results9, go_sem, HR1A.out, HR1B.out]; rfl) rfl ?_
        exact ⟨.mk [98, 111, 111, 108] [], _, _, rfl, plOk_leaf _ _ (by decide), leaf_is _ _ _ (by decide), pl_close HD1.out HK1.out hdl (grownTwo _ _ _ _)⟩
      · skip
        go_wp2_with fail
        refine (of_any [[101, 114, 114, 111, 114], [36, 65], [36, 66], [36], [117, 110, 105, 116]] (some ⟨w1.heap.size, 0, none⟩) 5 dd xs _ (by decide) (by decide) (HD1.out.below ((Below.refl _ _).alloc (Nat.le_refl _) _)) (row_lit w1 #[.string ⟨#[101,114,114,111,114]⟩, .string ⟨#[36,65]⟩, .string ⟨#[36,66]⟩, .string ⟨#[36]⟩, .string ⟨#[117,110,105,116]⟩] _ [[101, 114, 114, 111, 114], [36, 65], [36, 66], [36], [117, 110, 105, 116]] rfl dd (Nat.lt_of_lt_of_le hdl HK1.out.size))).mono ?_
        rintro e w2 ⟨x, hx, rfl, hD2, hK2⟩
        have hxn : PlName x := by
          simp at hx
          rcases hx with rfl | rfl | rfl | rfl | rfl <;> decide
        have hxl : x.length ≤ 1000 := by
          simp at hx
          rcases hx with rfl | rfl | rfl | rfl | rfl <;> decide
        have hK3 : Kp (fun y => y = dd) w w2 := (HK1.out.alloc _).one hK2
        have hR2 := hK2.heap ((heap_alloc_old w1 (.cells #[.string ⟨#[101,114,114,111,114]⟩, .string ⟨#[36,65]⟩, .string ⟨#[36,66]⟩, .string ⟨#[36]⟩, .string ⟨#[117,110,105,116]⟩] 9) (lt_of_heap HR1.out)).trans HR1.out) (by omega)
        have r0 : w2.cell? ⟨w.heap.size, 0, none⟩ = some (.string ⟨#[]⟩) := (Lib.cell_of_heap hR2 _).trans rfl
        have r1 : w2.cell? ⟨w.heap.size, 1, none⟩ = some (.slice none 0 0) := (Lib.cell_of_heap hR2 _).trans rfl
        have g0 : w2.frozen? ⟨w.heap.size, 0, none⟩ = false := Lib.frozen_of_heap hR2 0
        have g1 : w2.frozen? ⟨w.heap.size, 1, none⟩ = false := Lib.frozen_of_heap hR2 1
        have HD2 := Lib.hid hD2
        have HK3 := Lib.hid hK3
        have HR2 := Lib.hid (setCell_heap (o := 1) (v := .slice none 0 0) (setCell_heap (o := 0) (v := sv x) hR2))
        have HXN := Lib.hid hxn
        have HXL := Lib.hid hxl
        clear hD2 hK2 hK3 hR2 hxn hxl hx
        have c0 : ((w2.setCell ⟨w.heap.size, 0, none⟩ (sv x)).setCell ⟨w.heap.size, 1, none⟩ (.slice none 0 0)).cell? ⟨w.heap.size, 0, none⟩ = some (sv x) := (Lib.cell_of_heap HR2.out _).trans rfl
        have c1 : ((w2.setCell ⟨w.heap.size, 0, none⟩ (sv x)).setCell ⟨w.heap.size, 1, none⟩ (.slice none 0 0)).cell? ⟨w.heap.size, 1, none⟩ = some (.slice none 0 0) := (Lib.cell_of_heap HR2.out _).trans rfl
        go_wp2
        refine bodyPost_ret (v := .agg #[sv x, .slice none 0 0]) (by simp [results, Tryd.results9, go_sem, c0, c1]) rfl ?_
        exact ⟨.mk x [], _, _, rfl, plOk_leaf _ _ HXN.out, leaf_is _ _ _ HXL.out, pl_close HD2.out HK3.out hdl (grownTwo _ _ _ _)⟩
      · skip
        go_wp2
        refine bodyPost_ret (v := .agg #[sv [105, 110, 116], .slice none 0 0]) (by simp [results, Tryd.results9, go_sem, HR1A.out, HR1B.out]; rfl) rfl ?_
        exact ⟨.mk [105, 110, 116] [], _, _, rfl, plOk_leaf _ _ (by decide), leaf_is _ _ _ (by decide), pl_close HD1.out HK1.out hdl (grownTwo _ _ _ _)⟩
    | true =>
      go_enter Tryd.func9, Tryd.ntmps9
      go_wp2_with fail
      refine (next_any 3 dd xs _ (by decide) (by decide) HD0.out).mono ?_
      rintro e wa ⟨ka, hka, rfl, hDa, hKa⟩
      have hRa := hKa.heap HR0.out (by omega)
      have hKa := HK0.out.one hKa
      clear HR0 HK0 HD0
      have HR0 := Lib.hid hRa
      have HK0 := Lib.hid hKa
      have HD0 := Lib.hid hDa
      clear hRa hKa hDa
      by_cases hk0 : ka = 0
      · subst hk0
        have r0 : wa.cell? ⟨w.heap.size, 0, none⟩ = some (.string ⟨#[]⟩) := (Lib.cell_of_heap HR0.out _).trans rfl
        go_wp2_with fail
        refine (of_any [[36, 84], [36, 85]] (some ⟨wa.heap.size, 0, none⟩) 2 dd xs _ (by decide) (by decide) (HD0.out.below ((Below.refl _ _).alloc (Nat.le_refl _) _)) (row_lit wa #[.string ⟨#[36,84]⟩, .string ⟨#[36,85]⟩] _ [[36, 84], [36, 85]] rfl dd (Nat.lt_of_lt_of_le hdl HK0.out.size))).mono ?_
        rintro e w2 ⟨x, hx, rfl, hD2, hK2⟩
        have hxn : PlName x := by
          simp at hx
          rcases hx with rfl | rfl <;> decide
        have hxl : x.length ≤ 1000 := by
          simp at hx
          rcases hx with rfl | rfl <;> decide
        have hK3 : Kp (fun y => y = dd) w w2 := (HK0.out.alloc _).one hK2
        have hR2 := hK2.heap ((heap_alloc_old wa (.cells #[.string ⟨#[36,84]⟩, .string ⟨#[36,85]⟩] 9) (lt_of_heap HR0.out)).trans HR0.out) (by omega)
        have r0 : w2.cell? ⟨w.heap.size, 0, none⟩ = some (.string ⟨#[]⟩) := (Lib.cell_of_heap hR2 _).trans rfl
        have r1 : w2.cell? ⟨w.heap.size, 1, none⟩ = some (.slice none 0 0) := (Lib.cell_of_heap hR2 _).trans rfl
        have g0 : w2.frozen? ⟨w.heap.size, 0, none⟩ = false := Lib.frozen_of_heap hR2 0
        have g1 : w2.frozen? ⟨w.heap.size, 1, none⟩ = false := Lib.frozen_of_heap hR2 1
        have HD2 := Lib.hid hD2
        have HK3 := Lib.hid hK3
        have HR2 := Lib.hid (setCell_heap (o := 1) (v := .slice none 0 0) (setCell_heap (o := 0) (v := sv x) hR2))
        have HXN := Lib.hid hxn
        have HXL := Lib.hid hxl
        clear hD2 hK2 hK3 hR2 hxn hxl hx
        have c0 : ((w2.setCell ⟨w.heap.size, 0, none⟩ (sv x)).setCell ⟨w.heap.size, 1, none⟩ (.slice none 0 0)).cell? ⟨w.heap.size, 0, none⟩ = some (sv x) := (Lib.cell_of_heap HR2.out _).trans rfl
        have c1 : ((w2.setCell ⟨w.heap.size, 0, none⟩ (sv x)).setCell ⟨w.heap.size, 1, none⟩ (.slice none 0 0)).cell? ⟨w.heap.size, 1, none⟩ = some (.slice none 0 0) := (Lib.cell_of_heap HR2.out _).trans rfl
        go_wp2
        refine bodyPost_ret (v := .agg #[sv x, .slice none 0 0]) (by simp [results, Tryd.results9, go_sem, c0, c1]) rfl ?_
        exact ⟨.mk x [], _, _, rfl, plOk_leaf _ _ HXN.out, leaf_is _ _ _ HXL.out, pl_close HD2.out HK3.out hdl (grownTwo _ _ _ _)⟩
      · have hke : ((ka : Int) == 0) = false := by simp; omega
        go_wp2_with fail
        refine (next_any 5 dd xs _ (by decide) (by decide) HD0.out).mono ?_
        rintro e w1 ⟨k, hk, rfl, hD1, hK1⟩
        have hR1 := hK1.heap HR0.out (by omega)
        have r0 : w1.cell? ⟨w.heap.size, 0, none⟩ = some (.string ⟨#[]⟩) := (Lib.cell_of_heap hR1 _).trans rfl
        have r1 : w1.cell? ⟨w.heap.size, 1, none⟩ = some (.slice none 0 0) := (Lib.cell_of_heap hR1 _).trans rfl
        have g0 : w1.frozen? ⟨w.heap.size, 0, none⟩ = false := Lib.frozen_of_heap hR1 0
        have g1 : w1.frozen? ⟨w.heap.size, 1, none⟩ = false := Lib.frozen_of_heap hR1 1
        have hK01 := HK0.out.one hK1
        have HD1 := Lib.hid hD1
        have HK1 := Lib.hid hK01
        have HR1 := Lib.hid hR1
        have HR1A : Hid (∀ x y : Value, ((w1.setCell ⟨w.heap.size, 0, none⟩ x).setCell ⟨w.heap.size, 1, none⟩ y).cell? ⟨w.heap.size, 0, none⟩ = some x) := Lib.hid fun x y => (Lib.cell_of_heap (setCell_heap (setCell_heap hR1)) _).trans rfl
        have HR1B : Hid (∀ x y : Value, ((w1.setCell ⟨w.heap.size, 0, none⟩ x).setCell ⟨w.heap.size, 1, none⟩ y).cell? ⟨w.heap.size, 1, none⟩ = some y) := Lib.hid fun x y => (Lib.cell_of_heap (setCell_heap (setCell_heap hR1)) _).trans rfl
        clear hD1 hK1 hK01 hR1
        have hk5 : k = 0 ∨ k = 1 ∨ k = 2 ∨ k = 3 ∨ k = 4 := by omega
        rcases hk5 with rfl | rfl | rfl | rfl | rfl
        · skip
          clear r0 r1 g0 g1
          have hlt1 := lt_of_heap HR1.out
          go_wp2_with fail
          refine (ih (d : Int) true w1 rfl (by omega) HD1.out).mono ?_
          rintro e w3 ⟨t, u, v, rfl, hP, hT, hD3, hK3⟩
          obtain ⟨un, va, rfl, rfl⟩ := hT.shape
          have hR3 := hK3.heap HR1.out (by omega)
          have hsz3 := hK3.size
          have hK03 := HK1.out.one hK3
          have HP := Lib.hid hP
          have HT := Lib.hid hT
          have HD3 := Lib.hid hD3
          have HK3 := Lib.hid hK03
          have HR3 := Lib.hid hR3
          clear hP hT hD3 hK3 hK03 hR3
          go_wp2_with fail
          refine (list_any t _ _ (Fr w1.heap.size w3.heap.size) w3 (fun b hb => hb.2) HT.out).mono ?_
          rintro e w4 ⟨v', rfl, hT4, hb4⟩
          obtain ⟨n4, a4, hn4, rfl⟩ := hT4.shape
          clear hn4
          have hRw4 := (hb4.block _ (lt_of_heap HR3.out)).trans HR3.out
          have r0 : w4.cell? ⟨w.heap.size, 0, none⟩ = some (.string ⟨#[]⟩) := (Lib.cell_of_heap hRw4 _).trans rfl
          have r1 : w4.cell? ⟨w.heap.size, 1, none⟩ = some (.slice none 0 0) := (Lib.cell_of_heap hRw4 _).trans rfl
          have g0 : w4.frozen? ⟨w.heap.size, 0, none⟩ = false := Lib.frozen_of_heap hRw4 0
          have g1 : w4.frozen? ⟨w.heap.size, 1, none⟩ = false := Lib.frozen_of_heap hRw4 1
          have C0 : Hid (∀ x y : Value, ((w4.setCell ⟨w.heap.size, 0, none⟩ x).setCell ⟨w.heap.size, 1, none⟩ y).cell? ⟨w.heap.size, 0, none⟩ = some x) := Lib.hid fun x y => (Lib.cell_of_heap (setCell_heap (setCell_heap hRw4)) _).trans rfl
          have C1 : Hid (∀ x y : Value, ((w4.setCell ⟨w.heap.size, 0, none⟩ x).setCell ⟨w.heap.size, 1, none⟩ y).cell? ⟨w.heap.size, 1, none⟩ = some y) := Lib.hid fun x y => (Lib.cell_of_heap (setCell_heap (setCell_heap hRw4)) _).trans rfl
          have HT4 := Lib.hid hT4
          have HB4 := Lib.hid hb4
          have hsz4 := hb4.size
          clear hT4 hb4 hRw4
          go_wp2
          refine bodyPost_ret (v := .agg #[sv listName, .slice a4.1 a4.2.1 a4.2.2]) (by simp [results, Tryd.results9, go_sem, C0.out, C1.out]) rfl ?_
          exact ⟨.mk listName [t], _, _, rfl, plOk_one HP.out (by decide), pl_ty HT4.out (grownTwo _ _ _ _) (fun y hy => by rcases hy with ⟨h1, h2⟩ | ⟨h1, h2⟩ <;> omega), pl_close (HD3.out.below HB4.out) (HK3.out.below HB4.out) hdl (grownTwo _ _ _ _)⟩
        · skip
          clear r0 r1 g0 g1
          have hlt1 := lt_of_heap HR1.out
          go_wp2_with fail
          refine (ih (d : Int) true w1 rfl (by omega) HD1.out).mono ?_
          rintro e w3 ⟨t, u, v, rfl, hP, hT, hD3, hK3⟩
          obtain ⟨un, va, rfl, rfl⟩ := hT.shape
          have hR3 := hK3.heap HR1.out (by omega)
          have hsz3 := hK3.size
          have hK03 := HK1.out.one hK3
          have HP := Lib.hid hP
          have HT := Lib.hid hT
          have HD3 := Lib.hid hD3
          have HK3 := Lib.hid hK03
          have HR3 := Lib.hid hR3
          clear hP hT hD3 hK3 hK03 hR3
          go_wp2_with fail
          refine (ih (d : Int) true w3 rfl (by omega) HD3.out).mono ?_
          rintro e w4 ⟨t', u', v', rfl, hP', hT', hD4, hK4⟩
          obtain ⟨un', va', rfl, rfl⟩ := hT'.shape
          have hR4 := hK4.heap HR3.out (by omega)
          have hsz4 := hK4.size
          have hK04 := HK3.out.one hK4
          have hTk := HT.out.keep (hK4.kept fun y hy => ⟨hy.2, by have := hy.1; omega⟩)
          have HP' := Lib.hid hP'
          have HT' := Lib.hid hT'
          have HTK := Lib.hid hTk
          have HD4 := Lib.hid hD4
          have HK4 := Lib.hid hK04
          have hRW5 : (w4.alloc (.cells #[sv un, .slice va.1 va.2.1 va.2.2, sv un', .slice va'.1 va'.2.1 va'.2.2] 31)).heap[w.heap.size]? = some (.cells #[.string ⟨#[]⟩, .slice none 0 0] 31 (0, 0)) := (heap_alloc_old _ _ (lt_of_heap hR4)).trans hR4
          clear hP' hT' hTk hD4 hK4 hK04 HD3 HK3 HT
          have hT5 : TyIs (w4.alloc (.cells #[sv un, .slice va.1 va.2.1 va.2.2, sv un', .slice va'.1 va'.2.1 va'.2.2] 31)) (fun y => w1.heap.size ≤ y ∧ y < w4.heap.size + 1) (.mk pairName [t, t']) (sv pairName) (.slice (some ⟨w4.heap.size, 0, none⟩) 2 2) := by
            refine ty_lit (vs := [(sv un, .slice va.1 va.2.1 va.2.2), (sv un', .slice va'.1 va'.2.1 va'.2.2)]) (alloc1 _ _) ⟨by omega, by omega⟩ (by decide) rfl (by simp) rfl fun j s p hs hp => ?_
            match j, hs, hp with
            | 0, hs, hp =>
              simp at hs hp
              subst hs hp
              exact (HTK.out.keep ((kept_below ((Below.refl w4.heap.size w4).alloc (Nat.le_refl _) _)).sub fun y hy => by have := hy.2; unfold Lt; omega)).more fun y hy => ⟨hy.1, by have := hy.2; omega⟩
            | 1, hs, hp =>
              simp at hs hp
              subst hs hp
              exact (HT'.out.keep ((kept_below ((Below.refl w4.heap.size w4).alloc (Nat.le_refl _) _)).sub fun y hy => hy.2)).more fun y hy => ⟨by have := hy.1; omega, by have := hy.2; omega⟩
            | j + 2, hs, hp => simp at hs
          have HT5 := Lib.hid hT5
          clear hT5
          have r0 : (w4.alloc (.cells #[sv un, .slice va.1 va.2.1 va.2.2, sv un', .slice va'.1 va'.2.1 va'.2.2] 31)).cell? ⟨w.heap.size, 0, none⟩ = some (.string ⟨#[]⟩) := (Lib.cell_of_heap hRW5 _).trans rfl
          have r1 : (w4.alloc (.cells #[sv un, .slice va.1 va.2.1 va.2.2, sv un', .slice va'.1 va'.2.1 va'.2.2] 31)).cell? ⟨w.heap.size, 1, none⟩ = some (.slice none 0 0) := (Lib.cell_of_heap hRW5 _).trans rfl
          have g0 : (w4.alloc (.cells #[sv un, .slice va.1 va.2.1 va.2.2, sv un', .slice va'.1 va'.2.1 va'.2.2] 31)).frozen? ⟨w.heap.size, 0, none⟩ = false := Lib.frozen_of_heap hRW5 0
          have g1 : (w4.alloc (.cells #[sv un, .slice va.1 va.2.1 va.2.2, sv un', .slice va'.1 va'.2.1 va'.2.2] 31)).frozen? ⟨w.heap.size, 1, none⟩ = false := Lib.frozen_of_heap hRW5 1
          have C0 : Hid (∀ x y : Value, (((w4.alloc (.cells #[sv un, .slice va.1 va.2.1 va.2.2, sv un', .slice va'.1 va'.2.1 va'.2.2] 31)).setCell ⟨w.heap.size, 0, none⟩ x).setCell ⟨w.heap.size, 1, none⟩ y).cell? ⟨w.heap.size, 0, none⟩ = some x) := Lib.hid fun x y => (Lib.cell_of_heap (setCell_heap (setCell_heap hRW5)) _).trans rfl
          have C1 : Hid (∀ x y : Value, (((w4.alloc (.cells #[sv un, .slice va.1 va.2.1 va.2.2, sv un', .slice va'.1 va'.2.1 va'.2.2] 31)).setCell ⟨w.heap.size, 0, none⟩ x).setCell ⟨w.heap.size, 1, none⟩ y).cell? ⟨w.heap.size, 1, none⟩ = some y) := Lib.hid fun x y => (Lib.cell_of_heap (setCell_heap (setCell_heap hRW5)) _).trans rfl
          clear hRW5 hR4
          go_wp2
          refine bodyPost_ret (v := .agg #[sv pairName, .slice (some ⟨w4.heap.size, 0, none⟩) 2 2]) (by simp [results, Tryd.results9, go_sem, C0.out, C1.out]; rfl) rfl ?_
          exact ⟨.mk pairName [t, t'], _, _, rfl, plOk_two HP.out HP'.out (by decide), pl_ty HT5.out (grownTwo _ _ _ _) (fun y hy => by obtain ⟨h1, h2⟩ := hy; simp; omega), pl_close (HD4.out.below ((Below.refl _ _).alloc (Nat.le_refl _) _)) (HK4.out.alloc _) hdl (grownTwo _ _ _ _)⟩
        · skip
          go_wp2
          refine bodyPost_ret (v := .agg #[sv [98, 111, 111, 108], .slice none 0 0]) (by simp [results, Tryd.results9, go_sem, HR1A.out, HR1B.out]; rfl) rfl ?_
          exact ⟨.mk [98, 111, 111, 108] [], _, _, rfl, plOk_leaf _ _ (by decide), leaf_is _ _ _ (by decide), pl_close HD1.out HK1.out hdl (grownTwo _ _ _ _)⟩
        · skip
          go_wp2_with fail
          refine (of_any [[101, 114, 114, 111, 114], [36, 65], [36, 66], [36], [117, 110, 105, 116]] (some ⟨w1.heap.size, 0, none⟩) 5 dd xs _ (by decide) (by decide) (HD1.out.below ((Below.refl _ _).alloc (Nat.le_refl _) _)) (row_lit w1 #[.string ⟨#[101,114,114,111,114]⟩, .string ⟨#[36,65]⟩, .string ⟨#[36,66]⟩, .string ⟨#[36]⟩, .string ⟨#[117,110,105,116]⟩] _ [[101, 114, 114, 111, 114], [36, 65], [36, 66], [36], [117, 110, 105, 116]] rfl dd (Nat.lt_of_lt_of_le hdl HK1.out.size))).mono ?_
          rintro e w2 ⟨x, hx, rfl, hD2, hK2⟩
          have hxn : PlName x := by
            simp at hx
            rcases hx with rfl | rfl | rfl | rfl | rfl <;> decide
          have hxl : x.length ≤ 1000 := by
            simp at hx
            rcases hx with rfl | rfl | rfl | rfl | rfl <;> decide
          have hK3 : Kp (fun y => y = dd) w w2 := (HK1.out.alloc _).one hK2
          have hR2 := hK2.heap ((heap_alloc_old w1 (.cells #[.string ⟨#[101,114,114,111,114]⟩, .string ⟨#[36,65]⟩, .string ⟨#[36,66]⟩, .string ⟨#[36]⟩, .string ⟨#[117,110,105,116]⟩] 9) (lt_of_heap HR1.out)).trans HR1.out) (by omega)
          have r0 : w2.cell? ⟨w.heap.size, 0, none⟩ = some (.string ⟨#[]⟩) := (Lib.cell_of_heap hR2 _).trans rfl
          have r1 : w2.cell? ⟨w.heap.size, 1, none⟩ = some (.slice none 0 0) := (Lib.cell_of_heap hR2 _).trans rfl
          have g0 : w2.frozen? ⟨w.heap.size, 0, none⟩ = false := Lib.frozen_of_heap hR2 0
          have g1 : w2.frozen? ⟨w.heap.size, 1, none⟩ = false := Lib.frozen_of_heap hR2 1
          have HD2 := Lib.hid hD2
          have HK3 := Lib.hid hK3
          have HR2 := Lib.hid (setCell_heap (o := 1) (v := .slice none 0 0) (setCell_heap (o := 0) (v := sv x) hR2))
          have HXN := Lib.hid hxn
          have HXL := Lib.hid hxl
          clear hD2 hK2 hK3 hR2 hxn hxl hx
          have c0 : ((w2.setCell ⟨w.heap.size, 0, none⟩ (sv x)).setCell ⟨w.heap.size, 1, none⟩ (.slice none 0 0)).cell? ⟨w.heap.size, 0, none⟩ = some (sv x) := (Lib.cell_of_heap HR2.out _).trans rfl
          have c1 : ((w2.setCell ⟨w.heap.size, 0, none⟩ (sv x)).setCell ⟨w.heap.size, 1, none⟩ (.slice none 0 0)).cell? ⟨w.heap.size, 1, none⟩ = some (.slice none 0 0) := (Lib.cell_of_heap HR2.out _).trans rfl
          go_wp2
          refine bodyPost_ret (v := .agg #[sv x, .slice none 0 0]) (by simp [results, Tryd.results9, go_sem, c0, c1]) rfl ?_
          exact ⟨.mk x [], _, _, rfl, plOk_leaf _ _ HXN.out, leaf_is _ _ _ HXL.out, pl_close HD2.out HK3.out hdl (grownTwo _ _ _ _)⟩
        · skip
          go_wp2
          refine bodyPost_ret (v := .agg #[sv [105, 110, 116], .slice none 0 0]) (by simp [results, Tryd.results9, go_sem, HR1A.out, HR1B.out]; rfl) rfl ?_
          exact ⟨.mk [105, 110, 116] [], _, _, rfl, plOk_leaf _ _ (by decide), leaf_is _ _ _ (by decide), pl_close HD1.out HK1.out hdl (grownTwo _ _ _ _)⟩
end Go.Proofs.YtllodnlkphapgaaDoor
