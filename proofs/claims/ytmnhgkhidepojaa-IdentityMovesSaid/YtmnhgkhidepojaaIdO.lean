/-
  The walk of recompilelaw05.IdentityMoves.
  Conditions: the numbers that came in lie in memory.
-/
import Derived.Test.YtmnhgkhidepojaaIdW
import Derived.Test.YtmnhgkhidepojaaIdN
import Derived.Test.YtmnhgkhidepojaaBmix
import Derived.Test.YtmnhgkhidepojaaBrow
namespace Go.Proofs.Ytmnhgkhidepojaa
open Go.RowKit

theorem flt_set : ∀ {l : List It} {k : Nat} {x : It} (s : List UInt8), l[k]? = some x → (flt itC l).set (k * 3 + 2) (sv s) = flt itC (l.set k ⟨x.md, x.nm, s⟩)
  | [], k, x, s, h => by simp at h
  | y :: r, 0, x, s, h => by
    simp at h
    subst h
    rfl
  | y :: r, k + 1, x, s, h => by
    have ih := flt_set (l := r) (k := k) s (by simpa using h)
    rw [List.set_cons_succ, flt_cons, flt_cons, ← ih, List.set_append_right]
    · congr 2
      simp [itC]
      omega
    · simp [itC]
      omega

def mvPhi (a : Int) (i : Nat) (v : Value) (_w : World) : Prop :=
  match i with
  | 11 => v = .tuple #[.int .i64 a, .bool true]
  | 12 => v = .tuple #[.int .i64 a, .bool true]
  | 13 => v = .int .i64 a
  | 14 => v = .bool true
  | 15 => v = .int .i64 a
  | _ => True
theorem mvPhi_go {a : Int} (i : Nat) (v : Value) (w w' : World) (h : mvPhi a i v w) (_hb : Below w.heap.size w w') : mvPhi a i v w' := h

set_option maxHeartbeats 1600000 in
set_option maxRecDepth 100000 in
theorem moves_heavy (m : Nat) (TA : Option Addr) (tc : Nat) (fr : Int) (w : World) (hfew : ¬ m ≤ 400) :
    Calls Try.prog 5 #[.slice TA m tc, .int .i64 fr] w fun e w' => e = .returned (.bool true) ∧ Below w.heap.size w w' := by
  have HL := Lib.hid (light_any m TA tc w)
  have hd0 : decide (m ≤ 400) = false := by simpa using hfew
  go_enter Try.func5, Try.ntmps5
  go_wp2_with fail
  refine HL.out.mono ?_
  rintro e w1 ⟨rfl, rfl⟩
  rw [hd0]
  clear HL hd0
  go_wp2_with fail
  refine (awake_any w).mono ?_
  rintro e wz ⟨rfl, hbz⟩
  have HBz := Lib.hid hbz
  clear hbz
  go_wp2
  go_ret
  exact ⟨rfl, HBz.out⟩

set_option maxHeartbeats 1600000 in
set_option maxRecDepth 100000 in
theorem moves_light (xs : List Int) (TA : Option Addr) (tc : Nat) (fr : Int) (w : World) (hA : Row w (Lt w.heap.size) TA (xs.map (Value.int .i64))) (hfew : xs.length ≤ 400) (hf : ∀ x ∈ xs, -9223372036854775808 ≤ x ∧ x ≤ 9223372036854775807) (h0 : -9223372036854775808 ≤ fr) (h1 : fr ≤ 9223372036854775807) :
    Calls Try.prog 5 #[.slice TA xs.length tc, .int .i64 fr] w fun e w' => e = .returned (.bool true) ∧ Below w.heap.size w w' := by
  have hr := roll_any xs TA tc w hA hfew hf
  obtain ⟨m, hm⟩ : ∃ m, m = xs.length := ⟨_, rfl⟩
  rw [← hm] at hr hfew ⊢
  have HR := Lib.hid hr
  have HL := Lib.hid (light_any m TA tc w)
  have hd0 : decide (m ≤ 400) = true := by simpa using hfew
  clear hr hA hf hm
  go_enter Try.func5, Try.ntmps5
  go_wp2_with fail
  refine HL.out.mono ?_
  rintro e w1 ⟨rfl, rfl⟩
  rw [hd0]
  clear HL hd0
  go_wp2_with fail
  refine HR.out.mono ?_
  rintro e w1 ⟨rfl, hD1, hb1⟩
  have hdl := hD1.lt
  have HD1 := Lib.hid hD1
  have HB1 := Lib.hid hb1
  clear HR hD1 hb1
  go_wp2_with fail
  refine (items_any w.heap.size xs w1 HD1.out).mono ?_
  rintro e w2 ⟨l, LA, lc, rfl, hM, hLA, hlo, hD2, hK2⟩
  have hs2 := hK2.size
  have hs1 := HB1.out.size
  have HM := Lib.hid hM
  have HB2 : Hid (Below w.heap.size w w2) := Lib.hid ⟨hK2.os.trans HB1.out.os, hK2.tape.trans HB1.out.tape, hK2.output.trans HB1.out.output, Nat.le_trans hs1 hs2, fun b hb => (hK2.block b (by omega) (by omega)).trans (HB1.out.block b hb)⟩
  have HD2 := Lib.hid hD2
  obtain ⟨q, hq⟩ : ∃ q, q = l.length := ⟨_, rfl⟩
  have hq8 : q ≤ 8 := by rw [hq]; exact hM.2.1
  rw [← hq] at hlo ⊢
  have HQ := Lib.hid hq
  clear hM hD2 hK2 hq HD1 HB1 hLA
  by_cases hq0 : q = 0
  · subst hq0
    clear hlo
    go_wp2_with fail
    refine (awake_any w2).mono ?_
    rintro e wz ⟨rfl, hbz⟩
    have HBz := Lib.hid (HB2.out.trans (hbz.mono HB2.out.size))
    clear hbz
    go_wp2
    go_ret
    exact ⟨rfl, HBz.out⟩
  obtain ⟨g, rfl⟩ : ∃ g, LA = some ⟨g, 0, none⟩ := by
    obtain ⟨g, cap, hv, _⟩ := hlo.form (by omega)
    exact ⟨g, by injection hv⟩
  have hgl := hlo.lt g rfl
  have hqc := own_le hlo
  have HLO := Lib.hid hlo
  have hqq : ((q : Int) == 0) = false := by simp; omega
  clear hlo
  obtain ⟨k, hk, hkq⟩ : ∃ k : Nat, fr % (q : Int) = (k : Int) ∧ k < q := by
    have e1 := Int.emod_nonneg fr (b := (q : Int)) (by omega)
    have e2 := Int.emod_lt_of_pos fr (b := (q : Int)) (by omega)
    exact ⟨(fr % (q : Int)).toNat, by omega, by omega⟩
  have md := mod_any fr (q : Int) w2 h0 h1 (by omega) (by omega)
  rw [hk] at md
  have MD := Lib.hid md
  clear md hk
  go_wp2_with fail
  refine MD.out.mono ?_
  rintro e w3 ⟨rfl, rfl⟩
  obtain ⟨x0, hx0⟩ : ∃ x0, l[k]? = some x0 := ⟨_, List.getElem?_eq_getElem (by rw [← HQ.out]; exact hkq)⟩
  have c2 : w2.cell? ⟨g, k * 3 + 2, none⟩ = some (sv x0.sh) := by
    rw [HLO.out.cellAt (k * 3 + 2) (by omega)]
    exact flt_at itC_len hx0 rfl
  have fz := HLO.out.frozenAt (k * 3 + 2)
  have hst := HLO.out.stored (k * 3 + 2) (.string ⟨#[97, 108, 111, 110, 101]⟩)
  obtain ⟨L, hLL⟩ : ∃ L, L = l.set k ⟨x0.md, x0.nm, alone⟩ := ⟨_, rfl⟩
  have hset : (flt itC l).set (k * 3 + 2) (.string ⟨#[97, 108, 111, 110, 101]⟩) = flt itC L := by rw [hLL]; exact flt_set alone hx0
  rw [hset] at hst
  have HX0 := Lib.hid hx0
  have HLL := Lib.hid hLL
  have hLlen : L.length = q := by rw [hLL, List.length_set, HQ.out]
  have HB3 := Lib.hid (HB2.out.setCell (p := ⟨g, k * 3 + 2, none⟩) (by simp only; omega) (.string ⟨#[97, 108, 111, 110, 101]⟩))
  have hik : (0 : Int) ≤ (k : Int) ∧ (k : Int) < (q : Int) := ⟨by omega, by omega⟩
  have HD3 := Lib.hid (HD2.out.keep (M := fun y => y = g) (Kp.setCell (M := fun y => y = g) (Kp.refl _ _) (fun _ => rfl) (.string ⟨#[97, 108, 111, 110, 101]⟩) : Kp (fun y => y = g) w2 (w2.setCell ⟨g, k * 3 + 2, none⟩ (.string ⟨#[97, 108, 111, 110, 101]⟩))) (fun y hy => by omega))
  have HST := Lib.hid hst.1
  obtain ⟨w3, hw3⟩ : ∃ w3, w3 = w2.setCell ⟨g, k * 3 + 2, none⟩ (.string ⟨#[97, 108, 111, 110, 101]⟩) := ⟨_, rfl⟩
  rw [← hw3] at HB3 HD3 HST
  have HS3 := Lib.hid (show w3.heap.size = w2.heap.size by rw [hw3, sizeSet])
  have HW3 := Lib.hid hw3
  clear hst hset hx0 MD hLL hw3
  go_wp2_with fail
  rw [← HW3.out]
  have hs3 := HS3.out
  have hrowL : Row w3 (Lt w3.heap.size) (some ⟨g, 0, none⟩) (flt itC L) := Row.ofOwn HST.out fun g' _ _ h4 => h4
  have hu := update_any 1 [] L none (some ⟨g, 0, none⟩) 0 lc w3 (fun _ => rfl) (by simp) (by rw [hLlen]; omega) (Row.nil _ _ _) hrowL
  rw [hLlen] at hu
  refine hu.mono ?_
  rintro e w4 ⟨nx, X, XA, xc, eno, rfl, hXA, hXrow, hup, hb4⟩
  obtain ⟨rfl, hXl, hnx9, a, hfa⟩ := moves_law1 HM.out.1 HM.out.2.1 HX0.out HLL.out hup
  rw [hXl, ← HQ.out]
  have hs4 := hb4.size
  have hb5 : Below w4.heap.size w4 (w4.alloc (.cells #[.int .i64 nx, .slice XA q xc] 29)) := (Below.refl _ _).alloc (Nat.le_refl _) _
  have ha5 := alloc1 w4 (.cells #[.int .i64 nx, .slice XA q xc] 29)
  obtain ⟨w5, hw5⟩ : ∃ w5, w5 = w4.alloc (.cells #[.int .i64 nx, .slice XA q xc] 29) := ⟨_, rfl⟩
  rw [← hw5] at hb5 ha5
  have HS5 := Lib.hid (show w5.heap.size = w4.heap.size + 1 by rw [hw5]; simp)
  have HB35 := Lib.hid (hb4.trans (hb5.mono hs4))
  have HA5 := Lib.hid ha5
  have HXR := Lib.hid ((hXrow.keep ((kept_below hb5).sub fun b hb => hb.2)).more (S' := fun b => w3.heap.size ≤ b ∧ b < w4.heap.size) fun b hb => hb)
  have HUP := Lib.hid hup
  have HXL := Lib.hid hXl
  have HXA := Lib.hid hXA
  have HFA := Lib.hid hfa
  have HLO5 := Lib.hid ((Kp.ofBelow (hb4.trans (hb5.mono hs4)) : Kp (fun _ => False) w3 w5).own HST.out (fun _ _ e => e.elim))
  have HW5 := Lib.hid hw5
  have hLk : L[k]? = some ⟨x0.md, x0.nm, alone⟩ := by rw [HLL.out, List.getElem?_set, if_pos rfl, if_pos (by rw [← HQ.out]; exact hkq)]
  have HLK := Lib.hid hLk
  clear hu hrowL hup hXl hXA hXrow hb4 hb5 ha5 hw5 hfa hLk c2 fz
  go_wp2_with fail
  rw [← HW5.out]
  have hs5 := HS5.out
  have y0 : w5.cell? ⟨w4.heap.size, 0, none⟩ = some (.int .i64 nx) := (Lib.cell_of_heap HA5.out _).trans rfl
  have y1 : w5.cell? ⟨w4.heap.size, 1, none⟩ = some (.slice XA q xc) := (Lib.cell_of_heap HA5.out _).trans rfl
  have m0 : w5.cell? ⟨g, k * 3, none⟩ = some (sv x0.md) := by
    rw [HLO5.out.cellAt (k * 3) (by omega)]
    exact flt_at (j := 0) itC_len HLK.out rfl
  have m1 : w5.cell? ⟨g, k * 3 + 1, none⟩ = some (sv x0.nm) := by
    rw [HLO5.out.cellAt (k * 3 + 1) (by omega)]
    exact flt_at itC_len HLK.out rfl
  clear hs5
  refine wp_region_stable (fun w' => Below w5.heap.size w5 w' ∧ w'.cell? ⟨w4.heap.size, 0, none⟩ = some (.int .i64 nx) ∧ w'.cell? ⟨w4.heap.size, 1, none⟩ = some (.slice XA q xc) ∧ w'.cell? ⟨g, k * 3, none⟩ = some (sv x0.md) ∧ w'.cell? ⟨g, k * 3 + 1, none⟩ = some (sv x0.nm)) (fun w w' => Below w.heap.size w w') (mvPhi a) [0, 1, 2, 3, 4, 5, 6, 7, 8, 9, 10] [(11, 57), (12, 45), (13, 58), (14, 59), (15, 10)] [16] (by kernel_rfl) (by kernel_rfl) (by kernel_rfl) (Below.refl _ _) (fun a b c h h' => h.trans (h'.mono h.size)) mvPhi_go ?sa ?ha
  case sa => exact ⟨(Below.refl _ _).drew, y0, y1, m0, m1⟩
  case ha =>
    simp only [opsAt, List.filterMap_cons, List.filterMap_nil, List.getElem?_toArray, List.getElem?_cons_succ, List.getElem?_cons_zero]
    refine wpLoad_step ?va0 rfl (fun w' hS => ?ya0) ?ka0
    case ya0 =>
      obtain ⟨_, g0, g1, g2, g3⟩ := hS
      go_simp
      try rfl
    case ka0 =>
    go_simp
    refine wpLoad_step ?va1 rfl (fun w' hS => ?ya1) ?ka1
    case ya1 =>
      obtain ⟨_, g0, g1, g2, g3⟩ := hS
      go_simp
      try rfl
    case ka1 =>
    go_simp
    refine wpLoad_step ?va2 rfl (fun w' hS => ?ya2) ?ka2
    case ya2 =>
      obtain ⟨_, g0, g1, g2, g3⟩ := hS
      go_simp
      try rfl
    case ka2 =>
    go_simp
    refine wpLoad_step ?va3 rfl (fun w' hS => ?ya3) ?ka3
    case ya3 =>
      obtain ⟨_, g0, g1, g2, g3⟩ := hS
      go_simp
      try rfl
    case ka3 =>
    go_simp
    refine wpLoad_step ?va4 rfl (fun w' hS => ?ya4) ?ka4
    case ya4 =>
      obtain ⟨_, g0, g1, g2, g3⟩ := hS
      go_simp
      try rfl
    case ka4 =>
    go_simp
    refine wpLoad_step ?va5 rfl (fun w' hS => ?ya5) ?ka5
    case ya5 =>
      obtain ⟨_, g0, g1, g2, g3⟩ := hS
      go_simp
      try rfl
    case ka5 =>
    go_simp
    refine wpLoad_step ?va6 rfl (fun w' hS => ?ya6) ?ka6
    case ya6 =>
      obtain ⟨_, g0, g1, g2, g3⟩ := hS
      go_simp
      try rfl
    case ka6 =>
    go_simp
    refine wpLoad_step ?va7 rfl (fun w' hS => ?ya7) ?ka7
    case ya7 =>
      obtain ⟨_, g0, g1, g2, g3⟩ := hS
      go_simp
      try rfl
    case ka7 =>
    go_simp
    refine wpLoad_step ?va8 rfl (fun w' hS => ?ya8) ?ka8
    case ya8 =>
      obtain ⟨_, g0, g1, g2, g3⟩ := hS
      go_simp
      try rfl
    case ka8 =>
    go_simp
    refine wpLoad_step ?va9 rfl (fun w' hS => ?ya9) ?ka9
    case ya9 =>
      obtain ⟨_, g0, g1, g2, g3⟩ := hS
      go_simp
      try rfl
    case ka9 =>
    go_simp
    refine wpLoad_step ?va10 rfl (fun w' hS => ?ya10) ?ka10
    case ya10 =>
      obtain ⟨_, g0, g1, g2, g3⟩ := hS
      go_simp
      try rfl
    case ka10 =>
    go_simp
    refine wpLoad_nil ?_
    refine ⟨?sz, ?st, ?fin⟩
    case sz =>
      intro x hx
      simp only [List.mem_cons, List.not_mem_nil, or_false] at hx
      rcases hx with rfl | rfl | rfl | rfl | rfl <;> simp
    case st =>
      intro x hx
      simp only [List.mem_cons, List.not_mem_nil, or_false] at hx
      rcases hx with rfl | rfl | rfl | rfl | rfl
      · intro a' w7 K hI hK
        have e46 := hI.old 46 _ rfl (by decide)
        have hs5 := HS5.out
        have e51 := hI.old 51 _ rfl (by decide)
        have e56 := hI.old 56 _ rfl (by decide)
        have hS := hI.hold
        have hK : ∀ v w', Below w7.heap.size w7 w' → (Below w5.heap.size w5 w' ∧ w'.cell? ⟨w4.heap.size, 0, none⟩ = some (.int .i64 nx) ∧ w'.cell? ⟨w4.heap.size, 1, none⟩ = some (.slice XA q xc) ∧ w'.cell? ⟨g, k * 3, none⟩ = some (sv x0.md) ∧ w'.cell? ⟨g, k * 3 + 1, none⟩ = some (sv x0.nm)) → (v = .tuple #[.int .i64 a, .bool true]) → K (a'.put (some 57) v) w' := hK
        have hfi := find_any nx X XA xc x0.md x0.nm w7 (by rw [HXL.out, ← HQ.out]; omega) ((HXR.out.keep ((kept_below hS.1).sub fun b hb => by unfold Lt; omega)).more fun b hb => by have := hS.1.size; unfold Lt; omega)
        rw [HXL.out, ← HQ.out] at hfi
        have HF := Lib.hid hfi
        clear hI hfi hs5
        refine wpOp_go rfl rfl ?_
        go_simp
        refine HF.out.mono ?_
        rintro e w8 ⟨rfl, hb8⟩
        have hfa' : fnd X (x0.md, x0.nm) = some a := HFA.out
        rw [hfa']
        exact hK _ _ hb8 ⟨hS.1.trans (hb8.mono hS.1.size), (hb8.cell (block_lt_of_cell hS.2.1)).trans hS.2.1, (hb8.cell (block_lt_of_cell hS.2.2.1)).trans hS.2.2.1, (hb8.cell (block_lt_of_cell hS.2.2.2.1)).trans hS.2.2.2.1, (hb8.cell (block_lt_of_cell hS.2.2.2.2)).trans hS.2.2.2.2⟩ rfl
      · intro a' w7 K hI hK
        obtain ⟨v1, e57, hv⟩ := hI.new (11, 57) (by decide) (by kernel_rfl)
        have hS := hI.hold
        have hv : v1 = .tuple #[.int .i64 a, .bool true] := hv
        subst hv
        have hK : ∀ v w', Below w7.heap.size w7 w' → _ → (v = .tuple #[.int .i64 a, .bool true]) → K (a'.put (some 45) v) w' := hK
        clear hI
        refine wpOp_go rfl rfl ?_
        go_simp
        exact hK _ _ (Below.refl _ _) hS rfl
      · intro a' w7 K hI hK
        obtain ⟨v1, e45, hv⟩ := hI.new (12, 45) (by decide) (by kernel_rfl)
        have hS := hI.hold
        have hv : v1 = .tuple #[.int .i64 a, .bool true] := hv
        subst hv
        have hK : ∀ v w', Below w7.heap.size w7 w' → _ → (v = .int .i64 a) → K (a'.put (some 58) v) w' := hK
        clear hI
        refine wpOp_go rfl rfl ?_
        go_simp
        exact hK _ _ (Below.refl _ _) hS rfl
      · intro a' w7 K hI hK
        obtain ⟨v1, e45, hv⟩ := hI.new (12, 45) (by decide) (by kernel_rfl)
        have hS := hI.hold
        have hv : v1 = .tuple #[.int .i64 a, .bool true] := hv
        subst hv
        have hK : ∀ v w', Below w7.heap.size w7 w' → _ → (v = .bool true) → K (a'.put (some 59) v) w' := hK
        clear hI
        refine wpOp_go rfl rfl ?_
        go_simp
        exact hK _ _ (Below.refl _ _) hS rfl
      · intro a' w7 K hI hK
        obtain ⟨v1, e58, hv⟩ := hI.new (13, 58) (by decide) (by kernel_rfl)
        have hS := hI.hold
        have hv : v1 = .int .i64 a := hv
        subst hv
        have hK : ∀ v w', Below w7.heap.size w7 w' → _ → (v = .int .i64 a) → K (a'.put (some 10) v) w' := hK
        clear hI
        refine wpOp_go rfl rfl ?_
        go_simp
        exact hK _ _ (Below.refl _ _) hS rfl
    case fin =>
      intro vs w6 hb6 hS6 hΦ
      have q14 : vs 14 = .bool true := hΦ (14, 59) (by decide)
      have q15 : vs 15 = .int .i64 a := hΦ (15, 10) (by decide)
      simp only [putD, q14, q15]
      clear q14 q15 hΦ
      generalize vs 11 = a11
      generalize vs 12 = a12
      generalize vs 13 = a13
      clear vs hb6
      go_simp
      simp only [opsAt, List.filterMap_cons, List.filterMap_nil, List.getElem?_toArray, List.getElem?_cons_succ, List.getElem?_cons_zero]
      have HB56 := Lib.hid hS6.1
      clear hS6 y0 y1 m0 m1
      go_wp2
      refine NoPanic.normal ?_
      go_wp2_with fail
      have hs5 := HS5.out
      have hs6 := HB56.out.size
      have HB36 := Lib.hid (HB35.out.trans (HB56.out.mono (by omega)))
      have hd6 := HD3.out.below HB36.out
      have hb6 : Below w6.heap.size w6 (w6.alloc (.cells #[.string ⟨#[120]⟩, .string ⟨#[121]⟩] 9)) := (Below.refl _ _).alloc (Nat.le_refl _) _
      have hdl6 : w.heap.size < w6.heap.size := by omega
      refine (of_any [[120], [121]] (some ⟨w6.heap.size, 0, none⟩) 2 w.heap.size xs _ (by simp) (by simp) (hd6.below hb6) (row_lit w6 #[.string ⟨#[120]⟩, .string ⟨#[121]⟩] _ [[120], [121]] rfl w.heap.size hdl6)).mono ?_
      rintro e w7 ⟨nm, _, rfl, hD7, hK7⟩
      have hk67 : Kp (fun y => y = w.heap.size) w6 w7 := ((Kp.refl _ _).alloc _).one hK7
      have hs7 := hk67.size
      have ha8 := alloc1 w7 (.cells #[.string ⟨#[99]⟩, sv nm, .string ⟨#[97, 108, 111, 110, 101]⟩] 37)
      obtain ⟨w8, hw8⟩ : ∃ w8, w8 = w7.alloc (.cells #[.string ⟨#[99]⟩, sv nm, .string ⟨#[97, 108, 111, 110, 101]⟩] 37) := ⟨_, rfl⟩
      rw [← hw8] at ha8
      have hk8 : Kp (fun y => y = w.heap.size) w6 w8 := by rw [hw8]; exact hk67.alloc _
      have HS8 := Lib.hid (show w8.heap.size = w7.heap.size + 1 by rw [hw8]; simp)
      have HLO8 := Lib.hid (hk8.own ((Kp.ofBelow HB56.out : Kp (fun _ => False) w5 w6).own HLO5.out (fun _ _ e => e.elim)) (fun g' hg' e => by have h9 : g = g' := Option.some.inj hg'; omega))
      have HA8 := Lib.hid ha8
      have HX8 := Lib.hid (hk8.heap ((HB56.out.block _ (by omega)).trans HA5.out) (by omega))
      have hxr6 := HXR.out.keep ((kept_below HB56.out).sub fun b hb => by unfold Lt; omega)
      have hXr0 : Row w4 (Fr w3.heap.size w4.heap.size) XA (flt idC X) → True := fun _ => trivial
      have HW8 := Lib.hid hw8
      have HB38 : Hid (Below w.heap.size w w8) := Lib.hid (by
        have h1 := HB3.out.trans (HB36.out.mono HB3.out.size)
        exact ⟨hk8.os.trans h1.os, hk8.tape.trans h1.tape, hk8.output.trans h1.output, Nat.le_trans h1.size hk8.size, fun b hb => (hk8.block b (by omega) (by omega)).trans (h1.block b hb)⟩)
      clear hd6 hb6 hD7 hK7 hk67 ha8 hw8 hXr0
      go_wp2_with fail
      rw [← HW8.out]
      refine wp_region_held' (fun _ => True) [] [0, 1, 2, 4, 5, 6, 7] [3] [8, 9] (by kernel_rfl) (by kernel_rfl) ?sb ?hb
      case sb => trivial
      case hb =>
        simp only [opsAt, List.filterMap_cons, List.filterMap_nil, List.getElem?_toArray, List.getElem?_cons_succ, List.getElem?_cons_zero]
        refine wpFloat_nil ?_
        have hkl1 : k ≤ lc := by omega
        have hkl2 : k + 1 ≤ q := by omega
        have hkl3 : k + 1 ≤ lc := by omega
        have hqlc : q ≤ lc := by omega
        have hwk : IntKind.i64.wrap ((k : Int) + 1) = (k : Int) + 1 := by rw [IntKind.wrap_i64]; omega
        have hti1 : ((k : Int) + 1).toNat = k + 1 := by omega
        have hii1 : (0 : Int) ≤ (k : Int) + 1 := by omega
        have hii2 : (k : Int) + 1 ≤ (q : Int) := by omega
        refine wpLoad_step ?vb0 rfl (fun w' hS => ?yb0) ?kb0
        case yb0 =>
          obtain _ := hS
          go_simp
          try rfl
        case kb0 =>
        go_simp
        refine wpLoad_step ?vb1 rfl (fun w' hS => ?yb1) ?kb1
        case yb1 =>
          obtain _ := hS
          go_simp
          try rfl
        case kb1 =>
        go_simp
        refine wpLoad_step ?vb2 rfl (fun w' hS => ?yb2) ?kb2
        case yb2 =>
          obtain _ := hS
          go_simp
          try rfl
        case kb2 =>
        go_simp
        refine wpLoad_step ?vb3 rfl (fun w' hS => ?yb3) ?kb3
        case yb3 =>
          obtain _ := hS
          go_simp
          try rfl
        case kb3 =>
        go_simp
        refine wpLoad_step ?vb4 rfl (fun w' hS => ?yb4) ?kb4
        case yb4 =>
          obtain _ := hS
          go_simp
          try rfl
        case kb4 =>
        go_simp
        refine wpLoad_step ?vb5 rfl (fun w' hS => ?yb5) ?kb5
        case yb5 =>
          obtain _ := hS
          go_simp
          try rfl
        case kb5 =>
        go_simp
        refine wpLoad_step (.slice (if lc = k + 1 then some ⟨g, 0, none⟩ else some ⟨g, (k + 1) * 3, none⟩) (q - (k + 1)) (lc - (k + 1))) rfl (fun w' hS => ?yb6) ?kb6
        case yb6 =>
          go_simp
        case kb6 =>
        refine wpLoad_nil ?_
        obtain ⟨SB, hSB⟩ : ∃ SB : Option Addr, SB = (if lc = k + 1 then some ⟨g, 0, none⟩ else some ⟨g, (k + 1) * 3, none⟩) := ⟨_, rfl⟩
        rw [← hSB]
        obtain ⟨i0, hi0, hz0, hz1, hz2⟩ := info_parts infoIt
        have hs8 := HS8.out
        have hrow8 : Row w8 (Lt w8.heap.size) (some ⟨g, 0, none⟩) (flt itC L) := Row.ofOwn HLO8.out fun g' _ _ h4 => h4
        have hr1 : Row w8.drew (Lt w8.heap.size) (some ⟨g, 0, none⟩) (flt itC (L.take k)) := by
          have := (hrow8.front (k * 3)).keep (w' := w8.drew) fun p _ => rfl
          rwa [flt_take itC_len] at this
        have hr2 : Row w8 (Lt w8.heap.size) SB (flt itC (L.drop (k + 1))) := by
          by_cases hc : lc = k + 1
          · have : L.drop (k + 1) = [] := List.drop_eq_nil_of_le (by omega)
            rw [this]
            exact Row.nil _ _ _
          · rw [hSB, if_neg hc, ← flt_drop itC_len]
            refine hrow8.sub _ fun ad had _ => ?_
            obtain rfl := Option.some.inj had
            unfold Addr.add
            rw [if_neg (by omega)]
            simp
        have hl1 : (flt itC (L.take k)).length = k * 3 := by rw [flt_length itC_len, List.length_take]; congr 1; omega
        have hl2 : (flt itC (L.drop (k + 1))).length = (q - (k + 1)) * 3 := by rw [flt_length itC_len, List.length_drop, hLlen]
        have HR2 := Lib.hid hr2
        clear hr2 hrow8
        refine wpKeep_step rfl ?_
        refine (wp_append_row _ _ 34 rfl w8.heap.size 37 i0 _ 3 48 Try.underlying34 hi0 hz0 hz1 hz2 rfl (by omega) (.slice none 0 0) 0 [] rfl (World.ownsRow_nil _ _ _ _) (Lt w8.heap.size) (some ⟨g, 0, none⟩) k lc (flt itC (L.take k)) rfl hl1 hr1 (flt_one' itC_one _) (by unfold maxLen; omega) (by omega) (Nat.le_refl _) ?_)
        intro v9 w9 hown9 hg9 hat9
        refine ⟨trivial, ?_⟩
        refine wpKeep_nil ?_
        have hs9 : w8.heap.size ≤ w9.heap.size := hg9.size
        have hk9 : Kp (fun _ => False) w8 w9 := ((Kp.refl _ _).drew).grown hg9 (fun r hr _ => by cases hr)
        simp only [Nat.zero_add, List.nil_append] at hown9
        have HK9 := Lib.hid hk9
        have hlt9 := hown9.lt
        refine (wpList_append_row rfl _ _ 34 rfl w8.heap.size 37 i0 _ 3 48 Try.underlying34 hi0 hz0 hz1 hz2 rfl (by omega) v9 k (flt itC (L.take k)) rfl hown9 (Lt w8.heap.size) SB (q - (k + 1)) (lc - (k + 1)) (flt itC (L.drop (k + 1))) rfl hl2 (HR2.out.keep (hk9.kept fun b hb => ⟨hb, fun e => e⟩)) (flt_one' itC_one _) (by unfold maxLen; omega) (by omega) hs9 ?_)
        intro v10 w10 hown10 hg10 hat10
        have hk10 : Kp (fun y => w8.heap.size ≤ y) w8 w10 := (hk9.more fun _ _ e => e.elim).grown hg10 (fun r hr hrl => (hlt9 r hr).1)
        rw [← flt_append, show k + (q - (k + 1)) = q - 1 by omega] at hown10
        obtain ⟨OA, oc, hov, hoc⟩ := own_slice hown10
        subst hov
        have HOWN10 := Lib.hid hown10
        have HK10 := Lib.hid hk10
        clear hown9 hg9 hat9 hk9 hlt9 hown10 hg10 hat10 hk10 hr1 hl1 hl2 hSB hoc
        go_wp2
        refine NoPanic.normal ?_
        have hb810 : Below w8.heap.size w8 w10 := ⟨HK10.out.os, HK10.out.tape, HK10.out.output, HK10.out.size, fun b hb => HK10.out.block b hb (by omega)⟩
        have ha10 := (hb810.block w7.heap.size (by omega)).trans HA8.out
        have t0 : w10.cell? ⟨w7.heap.size, 0, none⟩ = some (.string ⟨#[99]⟩) := (Lib.cell_of_heap ha10 _).trans rfl
        have t1 : w10.cell? ⟨w7.heap.size, 1, none⟩ = some (sv nm) := (Lib.cell_of_heap ha10 _).trans rfl
        have t2 : w10.cell? ⟨w7.heap.size, 2, none⟩ = some (.string ⟨#[97, 108, 111, 110, 101]⟩) := (Lib.cell_of_heap ha10 _).trans rfl
        have hs10 := hb810.size
        have HA10 := Lib.hid ha10
        have HB810 := Lib.hid hb810
        clear hb810 ha10
        go_wp2_with (at_builtin; refine wpList_append_lies _ rfl _ _ 34 rfl w8.heap.size 37 i0 _ 3 48 Try.underlying34 hi0 hz0 hz1 hz2 rfl (by omega) _ (q - 1) (flt itC (L.take k ++ L.drop (k + 1))) rfl (HOWN10.out.alloc _) ⟨w10.heap.size, 0, none⟩ 1 1 (itC ⟨[99], nm, alone⟩) rfl rfl ?d1 ?d2 (by omega) ?d3 ?d4 ?d5 _ rfl ?_)
        case d1 => exact World.news_of_block (cs := #[.string ⟨#[99]⟩, sv nm, .string ⟨#[97, 108, 111, 110, 101]⟩]) (alloc1 w10 _)
        case d2 => exact itC_one _
        case d3 => unfold maxLen; omega
        case d4 => omega
        case d5 => simp; omega
        intro mg mc w11 hown11 hg11 hat11 _
        obtain ⟨M, hMM⟩ : ∃ M, M = L.take k ++ L.drop (k + 1) ++ [⟨[99], nm, alone⟩] := ⟨_, rfl⟩
        have hMlen : M.length = q - 1 + 1 := by
          rw [hMM]
          simp only [List.length_append, List.length_take, List.length_drop, List.length_cons, List.length_nil, hLlen]
          omega
        rw [show flt itC (L.take k ++ L.drop (k + 1)) ++ itC ⟨[99], nm, alone⟩ = flt itC M by rw [hMM, flt_append itC (L.take k ++ L.drop (k + 1)), flt_one]] at hown11
        have hb11 : Below w8.heap.size w8 w11 := (HB810.out.alloc (by omega) (.cells #[.string ⟨#[99]⟩, sv nm, .string ⟨#[97, 108, 111, 110, 101]⟩] 37)).grown hg11 (by simp; omega) (fun r hr => by have := (HOWN10.out.lt r hr).1; omega)
        have hs11 := hb11.size
        have hX11 := (hb11.block w4.heap.size (by omega)).trans HX8.out
        have x0' : w11.cell? ⟨w4.heap.size, 0, none⟩ = some (.int .i64 nx) := (Lib.cell_of_heap hX11 _).trans rfl
        have x1' : w11.cell? ⟨w4.heap.size, 1, none⟩ = some (.slice XA q xc) := (Lib.cell_of_heap hX11 _).trans rfl
        have HMM := Lib.hid hMM
        have HRM := Lib.hid (Row.ofOwn (S := Lt w11.heap.size) hown11 fun g' _ _ h4 => h4)
        have HB11 := Lib.hid hb11
        have hxr8 := hxr6.keep (hk8.kept fun b hb => ⟨by omega, fun e => by omega⟩)
        have HXR11 := Lib.hid (hxr8.keep ((kept_below hb11).sub fun b hb => by unfold Lt; omega))
        clear hMM hown11 hg11 hat11 hb11 hX11 hxr6 hk8 hxr8 t0 t1 t2 HOWN10
        go_wp2_with fail
        have hu2 := update_any nx X M XA (some ⟨mg, 0, none⟩) xc mc w11 HXA.out (by rw [HXL.out, ← HQ.out]; omega) (by rw [hMlen]; omega) (HXR11.out.more fun b hb => by unfold Lt; omega) HRM.out
        rw [hMlen, HXL.out, ← HQ.out] at hu2
        refine hu2.mono ?_
        rintro e w12 ⟨ny, Y, YA, yc, fno, rfl, hYA, hYrow, hup2, hb12⟩
        obtain ⟨_, rfl, a', hfa', hfy, hmvs⟩ := moves_law HM.out.1 HM.out.2.1 (fun x hx => (HM.out.2.2 x hx).2) HX0.out nm HLL.out HMM.out HUP.out hup2
        obtain rfl : a = a' := by
          have := HFA.out
          rw [hfa'] at this
          exact (Option.some.inj this).symm
        have hYl : Y.length = q - 1 + 1 := by rw [upd_zero_len hup2, hMlen]
        rw [hYl]
        have hs12 := hb12.size
        have hb13 : Below w12.heap.size w12 (w12.alloc (.cells #[.int .i64 ny, .slice YA (q - 1 + 1) yc] 29)) := (Below.refl _ _).alloc (Nat.le_refl _) _
        have ha13 := alloc1 w12 (.cells #[.int .i64 ny, .slice YA (q - 1 + 1) yc] 29)
        obtain ⟨w13, hw13⟩ : ∃ w13, w13 = w12.alloc (.cells #[.int .i64 ny, .slice YA (q - 1 + 1) yc] 29) := ⟨_, rfl⟩
        rw [← hw13] at hb13 ha13
        have hs13 : w13.heap.size = w12.heap.size + 1 := by rw [hw13]; simp
        have hb1113 := hb12.trans (hb13.mono hs12)
        have HB13 := Lib.hid (HB11.out.trans (hb1113.mono hs11))
        have HYR := Lib.hid (hYrow.keep ((kept_below hb13).sub fun b hb => hb.2))
        have HXR13 := Lib.hid (HXR11.out.keep ((kept_below hb1113).sub fun b hb => by unfold Lt; omega))
        have HA13 := Lib.hid ha13
        have HW13 := Lib.hid hw13
        have HFY := Lib.hid hfy
        have HMVS := Lib.hid hmvs
        have HYL := Lib.hid hYl
        have hq12 := hb1113.size
        have hA12 := (hb12.block w7.heap.size (by omega)).trans ((HB11.out.block w7.heap.size (by omega)).trans HA8.out)
        have t1 : w12.cell? ⟨w7.heap.size, 1, none⟩ = some (sv nm) := (Lib.cell_of_heap hA12 _).trans rfl
        have hl712 : w7.heap.size < w12.heap.size := by omega
        clear hup2 hYA hYrow hb12 hb13 ha13 hw13 hb1113 hfa' hfy hmvs hYl hu2 x0' x1' hA12
        have HS13 := Lib.hid hs13
        clear hs13
        go_wp2_with fail
        rw [← HW13.out]
        have hs13 := HS13.out
        have hfi := find_any ny Y YA yc [99] nm w13 (by rw [HYL.out]; omega) (HYR.out.more fun b hb => by have := hb.2; unfold Lt; omega)
        rw [HYL.out] at hfi
        refine hfi.mono ?_
        rintro e w14 ⟨rfl, hb14⟩
        rw [HFY.out]
        have hs14 := hb14.size
        have HB14 := Lib.hid (HB13.out.trans (hb14.mono HB13.out.size))
        have hX14 := (HB14.out.block w4.heap.size (by omega)).trans HX8.out
        have hY14 := (hb14.block w12.heap.size (by omega)).trans HA13.out
        have x0' : w14.cell? ⟨w4.heap.size, 0, none⟩ = some (.int .i64 nx) := (Lib.cell_of_heap hX14 _).trans rfl
        have x1' : w14.cell? ⟨w4.heap.size, 1, none⟩ = some (.slice XA q xc) := (Lib.cell_of_heap hX14 _).trans rfl
        have y0 : w14.cell? ⟨w12.heap.size, 0, none⟩ = some (.int .i64 ny) := (Lib.cell_of_heap hY14 _).trans rfl
        have y1 : w14.cell? ⟨w12.heap.size, 1, none⟩ = some (.slice YA (q - 1 + 1) yc) := (Lib.cell_of_heap hY14 _).trans rfl
        have HX14r := Lib.hid (HXR13.out.keep ((kept_below hb14).sub fun b hb => by unfold Lt; omega))
        have HY14r := Lib.hid (HYR.out.keep ((kept_below hb14).sub fun b hb => by have := hb.2; unfold Lt; omega))
        clear hfi hb14 hX14 hY14 t1
        go_wp2_with fail
        have hmo := moves_any nx ny X Y XA YA xc yc w14 (by rw [HXL.out, ← HQ.out]; omega) (by rw [HYL.out]; omega) (HX14r.out.more fun b hb => by unfold Lt; omega) (HY14r.out.more fun b hb => by have := hb.2; unfold Lt; omega)
        rw [HXL.out, ← HQ.out, HYL.out, HMVS.out] at hmo
        refine hmo.mono ?_
        rintro e w15 ⟨VA, vc, rfl, _, hvo, hb15⟩
        obtain ⟨vg, rfl⟩ : ∃ vg, VA = some ⟨vg, 0, none⟩ := by
          obtain ⟨vg, cap, hv, _⟩ := hvo.form (by simp)
          exact ⟨vg, by injection hv⟩
        have hvlt := hvo.lt vg rfl
        have hs15 := hb15.size
        have v0 : w15.cell? ⟨vg, 0, none⟩ = some (.int .i64 a) := (hvo.cellAt 0 (by simp)).trans rfl
        have v1 : w15.cell? ⟨vg, 1, none⟩ = some (.string ⟨#[99]⟩) := (hvo.cellAt 1 (by simp)).trans rfl
        have v2 : w15.cell? ⟨vg, 2, none⟩ = some (sv nm) := (hvo.cellAt 2 (by simp)).trans rfl
        have v3 : w15.cell? ⟨vg, 3, none⟩ = some (.string ⟨#[97, 108, 111, 110, 101]⟩) := (hvo.cellAt 3 (by simp)).trans rfl
        have hA15 := (hb15.block w7.heap.size (by omega)).trans ((HB14.out.block w7.heap.size (by omega)).trans HA8.out)
        have t0 : w15.cell? ⟨w7.heap.size, 0, none⟩ = some (.string ⟨#[99]⟩) := (Lib.cell_of_heap hA15 _).trans rfl
        have t1 : w15.cell? ⟨w7.heap.size, 1, none⟩ = some (sv nm) := (Lib.cell_of_heap hA15 _).trans rfl
        have t2 : w15.cell? ⟨w7.heap.size, 2, none⟩ = some (.string ⟨#[97, 108, 111, 110, 101]⟩) := (Lib.cell_of_heap hA15 _).trans rfl
        have HB15 : Hid (Below w.heap.size w w15) := Lib.hid (HB38.out.trans ((HB14.out.trans (hb15.mono HB14.out.size)).mono HB38.out.size))
        simp only [List.length_cons, List.length_nil, Nat.zero_add]
        clear hmo hvo hb15 hA15 x0' x1' y0 y1
        go_wp2_with fail
        have hcs : ∀ u u' : World, Below u.heap.size u u' → ∀ b o v, b < u.heap.size → u.cell? ⟨b, o, none⟩ = some v → u'.cell? ⟨b, o, none⟩ = some v := fun u u' hb b o v hlt hc => (hb.cell hlt).trans hc
        have HV : Hid (∀ u : World, Below w15.heap.size w15 u → (u.cell? ⟨vg, 0, none⟩ = some (.int .i64 a) ∧ u.cell? ⟨vg, 1, none⟩ = some (.string ⟨#[99]⟩) ∧ u.cell? ⟨vg, 2, none⟩ = some (sv nm) ∧ u.cell? ⟨vg, 3, none⟩ = some (.string ⟨#[97, 108, 111, 110, 101]⟩)
            ∧ u.cell? ⟨w7.heap.size, 0, none⟩ = some (.string ⟨#[99]⟩) ∧ u.cell? ⟨w7.heap.size, 1, none⟩ = some (sv nm) ∧ u.cell? ⟨w7.heap.size, 2, none⟩ = some (.string ⟨#[97, 108, 111, 110, 101]⟩))) :=
          Lib.hid fun u hb => ⟨hcs _ _ hb _ _ _ hvlt.2 v0, hcs _ _ hb _ _ _ hvlt.2 v1, hcs _ _ hb _ _ _ hvlt.2 v2, hcs _ _ hb _ _ _ hvlt.2 v3, hcs _ _ hb _ _ _ (by omega) t0, hcs _ _ hb _ _ _ (by omega) t1, hcs _ _ hb _ _ _ (by omega) t2⟩
        refine wp_region_mix (fun u => (u.cell? ⟨vg, 0, none⟩ = some (.int .i64 a) ∧ u.cell? ⟨vg, 1, none⟩ = some (.string ⟨#[99]⟩) ∧ u.cell? ⟨vg, 2, none⟩ = some (sv nm) ∧ u.cell? ⟨vg, 3, none⟩ = some (.string ⟨#[97, 108, 111, 110, 101]⟩)
            ∧ u.cell? ⟨w7.heap.size, 0, none⟩ = some (.string ⟨#[99]⟩) ∧ u.cell? ⟨w7.heap.size, 1, none⟩ = some (sv nm) ∧ u.cell? ⟨w7.heap.size, 2, none⟩ = some (.string ⟨#[97, 108, 111, 110, 101]⟩)) ∧ Below w15.heap.size w15 u) [(false, 0), (true, 1), (true, 2), (true, 3), (true, 4), (true, 5), (true, 6), (true, 7), (true, 8), (true, 9), (true, 10), (true, 11), (true, 12), (true, 13), (true, 14), (true, 15), (true, 16), (true, 17), (true, 18), (true, 19), (true, 20), (true, 21), (true, 22), (true, 23), (true, 24), (true, 25), (true, 26), (true, 27), (true, 28), (true, 29), (true, 30), (true, 31), (true, 32), (true, 33), (true, 34), (true, 35), (true, 36), (true, 37), (true, 38), (true, 39), (true, 40)] [41] (by kernel_rfl) (by kernel_rfl) ?s ?h
        case s => exact ⟨HV.out _ ((Below.refl _ w15).drew), (Below.refl _ w15).drew⟩
        case h =>
        clear v0 v1 v2 v3 t0 t1 t2
        simp only [mixAt, List.filterMap_cons, List.filterMap_nil, List.getElem?_toArray, List.getElem?_cons_succ, List.getElem?_cons_zero, Option.map_some]
        refine wpMix_keep rfl ?_
        go_wp2_with fail
        refine (awake_any w15.drew).mono ?_
        rintro e w16 ⟨rfl, hb16⟩
        have hb16' : Below w15.heap.size w15 w16 := (Below.refl _ w15).drew.trans hb16
        refine ⟨⟨HV.out _ hb16', hb16'⟩, ?_⟩
        refine wpMix_load ?vp1 rfl (fun w' hS => ?yp1) ?kp1
        case yp1 =>
          obtain ⟨⟨v0, v1, v2, v3, t0, t1, t2⟩, _⟩ := hS
          go_simp
          try rfl
        case kp1 =>
        go_simp
        refine wpMix_load ?vp2 rfl (fun w' hS => ?yp2) ?kp2
        case yp2 =>
          obtain ⟨⟨v0, v1, v2, v3, t0, t1, t2⟩, _⟩ := hS
          go_simp
          try rfl
        case kp2 =>
        go_simp
        refine wpMix_load ?vp3 rfl (fun w' hS => ?yp3) ?kp3
        case yp3 =>
          obtain ⟨⟨v0, v1, v2, v3, t0, t1, t2⟩, _⟩ := hS
          go_simp
          try rfl
        case kp3 =>
        go_simp
        refine wpMix_load ?vp4 rfl (fun w' hS => ?yp4) ?kp4
        case yp4 =>
          obtain ⟨⟨v0, v1, v2, v3, t0, t1, t2⟩, _⟩ := hS
          go_simp
          try rfl
        case kp4 =>
        go_simp
        refine wpMix_load ?vp5 rfl (fun w' hS => ?yp5) ?kp5
        case yp5 =>
          obtain ⟨⟨v0, v1, v2, v3, t0, t1, t2⟩, _⟩ := hS
          go_simp
          try rfl
        case kp5 =>
        go_simp
        refine wpMix_load ?vp6 rfl (fun w' hS => ?yp6) ?kp6
        case yp6 =>
          obtain ⟨⟨v0, v1, v2, v3, t0, t1, t2⟩, _⟩ := hS
          go_simp
          try rfl
        case kp6 =>
        go_simp
        refine wpMix_load ?vp7 rfl (fun w' hS => ?yp7) ?kp7
        case yp7 =>
          obtain ⟨⟨v0, v1, v2, v3, t0, t1, t2⟩, _⟩ := hS
          go_simp
          try rfl
        case kp7 =>
        go_simp
        refine wpMix_load ?vp8 rfl (fun w' hS => ?yp8) ?kp8
        case yp8 =>
          obtain ⟨⟨v0, v1, v2, v3, t0, t1, t2⟩, _⟩ := hS
          go_simp
          try rfl
        case kp8 =>
        go_simp
        refine wpMix_load ?vp9 rfl (fun w' hS => ?yp9) ?kp9
        case yp9 =>
          obtain ⟨⟨v0, v1, v2, v3, t0, t1, t2⟩, _⟩ := hS
          go_simp
          try rfl
        case kp9 =>
        go_simp
        refine wpMix_load ?vp10 rfl (fun w' hS => ?yp10) ?kp10
        case yp10 =>
          obtain ⟨⟨v0, v1, v2, v3, t0, t1, t2⟩, _⟩ := hS
          go_simp
          try rfl
        case kp10 =>
        go_simp
        refine wpMix_load ?vp11 rfl (fun w' hS => ?yp11) ?kp11
        case yp11 =>
          obtain ⟨⟨v0, v1, v2, v3, t0, t1, t2⟩, _⟩ := hS
          go_simp
          try rfl
        case kp11 =>
        go_simp
        refine wpMix_load ?vp12 rfl (fun w' hS => ?yp12) ?kp12
        case yp12 =>
          obtain ⟨⟨v0, v1, v2, v3, t0, t1, t2⟩, _⟩ := hS
          go_simp
          try rfl
        case kp12 =>
        go_simp
        refine wpMix_load ?vp13 rfl (fun w' hS => ?yp13) ?kp13
        case yp13 =>
          obtain ⟨⟨v0, v1, v2, v3, t0, t1, t2⟩, _⟩ := hS
          go_simp
          try rfl
        case kp13 =>
        go_simp
        refine wpMix_load ?vp14 rfl (fun w' hS => ?yp14) ?kp14
        case yp14 =>
          obtain ⟨⟨v0, v1, v2, v3, t0, t1, t2⟩, _⟩ := hS
          go_simp
          try rfl
        case kp14 =>
        go_simp
        refine wpMix_load ?vp15 rfl (fun w' hS => ?yp15) ?kp15
        case yp15 =>
          obtain ⟨⟨v0, v1, v2, v3, t0, t1, t2⟩, _⟩ := hS
          go_simp
          try rfl
        case kp15 =>
        go_simp
        refine wpMix_load ?vp16 rfl (fun w' hS => ?yp16) ?kp16
        case yp16 =>
          obtain ⟨⟨v0, v1, v2, v3, t0, t1, t2⟩, _⟩ := hS
          go_simp
          try rfl
        case kp16 =>
        go_simp
        refine wpMix_load ?vp17 rfl (fun w' hS => ?yp17) ?kp17
        case yp17 =>
          obtain ⟨⟨v0, v1, v2, v3, t0, t1, t2⟩, _⟩ := hS
          go_simp
          try rfl
        case kp17 =>
        go_simp
        refine wpMix_load ?vp18 rfl (fun w' hS => ?yp18) ?kp18
        case yp18 =>
          obtain ⟨⟨v0, v1, v2, v3, t0, t1, t2⟩, _⟩ := hS
          go_simp
          try rfl
        case kp18 =>
        go_simp
        refine wpMix_load ?vp19 rfl (fun w' hS => ?yp19) ?kp19
        case yp19 =>
          obtain ⟨⟨v0, v1, v2, v3, t0, t1, t2⟩, _⟩ := hS
          go_simp
          try rfl
        case kp19 =>
        go_simp
        refine wpMix_load ?vp20 rfl (fun w' hS => ?yp20) ?kp20
        case yp20 =>
          obtain ⟨⟨v0, v1, v2, v3, t0, t1, t2⟩, _⟩ := hS
          go_simp
          try rfl
        case kp20 =>
        go_simp
        refine wpMix_load ?vp21 rfl (fun w' hS => ?yp21) ?kp21
        case yp21 =>
          obtain ⟨⟨v0, v1, v2, v3, t0, t1, t2⟩, _⟩ := hS
          go_simp
          try rfl
        case kp21 =>
        go_simp
        refine wpMix_load ?vp22 rfl (fun w' hS => ?yp22) ?kp22
        case yp22 =>
          obtain ⟨⟨v0, v1, v2, v3, t0, t1, t2⟩, _⟩ := hS
          go_simp
          try rfl
        case kp22 =>
        go_simp
        refine wpMix_load ?vp23 rfl (fun w' hS => ?yp23) ?kp23
        case yp23 =>
          obtain ⟨⟨v0, v1, v2, v3, t0, t1, t2⟩, _⟩ := hS
          go_simp
          try rfl
        case kp23 =>
        go_simp
        refine wpMix_load ?vp24 rfl (fun w' hS => ?yp24) ?kp24
        case yp24 =>
          obtain ⟨⟨v0, v1, v2, v3, t0, t1, t2⟩, _⟩ := hS
          go_simp
          try rfl
        case kp24 =>
        go_simp
        refine wpMix_load ?vp25 rfl (fun w' hS => ?yp25) ?kp25
        case yp25 =>
          obtain ⟨⟨v0, v1, v2, v3, t0, t1, t2⟩, _⟩ := hS
          go_simp
          try rfl
        case kp25 =>
        go_simp
        refine wpMix_load ?vp26 rfl (fun w' hS => ?yp26) ?kp26
        case yp26 =>
          obtain ⟨⟨v0, v1, v2, v3, t0, t1, t2⟩, _⟩ := hS
          go_simp
          try rfl
        case kp26 =>
        go_simp
        refine wpMix_load ?vp27 rfl (fun w' hS => ?yp27) ?kp27
        case yp27 =>
          obtain ⟨⟨v0, v1, v2, v3, t0, t1, t2⟩, _⟩ := hS
          go_simp
          try rfl
        case kp27 =>
        go_simp
        refine wpMix_load ?vp28 rfl (fun w' hS => ?yp28) ?kp28
        case yp28 =>
          obtain ⟨⟨v0, v1, v2, v3, t0, t1, t2⟩, _⟩ := hS
          go_simp
          try rfl
        case kp28 =>
        go_simp
        refine wpMix_load ?vp29 rfl (fun w' hS => ?yp29) ?kp29
        case yp29 =>
          obtain ⟨⟨v0, v1, v2, v3, t0, t1, t2⟩, _⟩ := hS
          go_simp
          try rfl
        case kp29 =>
        go_simp
        refine wpMix_load ?vp30 rfl (fun w' hS => ?yp30) ?kp30
        case yp30 =>
          obtain ⟨⟨v0, v1, v2, v3, t0, t1, t2⟩, _⟩ := hS
          go_simp
          try rfl
        case kp30 =>
        go_simp
        refine wpMix_load ?vp31 rfl (fun w' hS => ?yp31) ?kp31
        case yp31 =>
          obtain ⟨⟨v0, v1, v2, v3, t0, t1, t2⟩, _⟩ := hS
          go_simp
          try rfl
        case kp31 =>
        go_simp
        refine wpMix_load ?vp32 rfl (fun w' hS => ?yp32) ?kp32
        case yp32 =>
          obtain ⟨⟨v0, v1, v2, v3, t0, t1, t2⟩, _⟩ := hS
          go_simp
          try rfl
        case kp32 =>
        go_simp
        refine wpMix_load ?vp33 rfl (fun w' hS => ?yp33) ?kp33
        case yp33 =>
          obtain ⟨⟨v0, v1, v2, v3, t0, t1, t2⟩, _⟩ := hS
          go_simp
          try rfl
        case kp33 =>
        go_simp
        refine wpMix_load ?vp34 rfl (fun w' hS => ?yp34) ?kp34
        case yp34 =>
          obtain ⟨⟨v0, v1, v2, v3, t0, t1, t2⟩, _⟩ := hS
          go_simp
          try rfl
        case kp34 =>
        go_simp
        refine wpMix_load ?vp35 rfl (fun w' hS => ?yp35) ?kp35
        case yp35 =>
          obtain ⟨⟨v0, v1, v2, v3, t0, t1, t2⟩, _⟩ := hS
          go_simp
          try rfl
        case kp35 =>
        go_simp
        refine wpMix_load ?vp36 rfl (fun w' hS => ?yp36) ?kp36
        case yp36 =>
          obtain ⟨⟨v0, v1, v2, v3, t0, t1, t2⟩, _⟩ := hS
          go_simp
          try rfl
        case kp36 =>
        go_simp
        refine wpMix_load ?vp37 rfl (fun w' hS => ?yp37) ?kp37
        case yp37 =>
          obtain ⟨⟨v0, v1, v2, v3, t0, t1, t2⟩, _⟩ := hS
          go_simp
          try rfl
        case kp37 =>
        go_simp
        refine wpMix_load ?vp38 rfl (fun w' hS => ?yp38) ?kp38
        case yp38 =>
          obtain ⟨⟨v0, v1, v2, v3, t0, t1, t2⟩, _⟩ := hS
          go_simp
          try rfl
        case kp38 =>
        go_simp
        refine wpMix_load ?vp39 rfl (fun w' hS => ?yp39) ?kp39
        case yp39 =>
          obtain ⟨⟨v0, v1, v2, v3, t0, t1, t2⟩, _⟩ := hS
          go_simp
          try rfl
        case kp39 =>
        go_simp
        refine wpMix_load ?vp40 rfl (fun w' hS => ?yp40) ?kp40
        case yp40 =>
          obtain ⟨⟨v0, v1, v2, v3, t0, t1, t2⟩, _⟩ := hS
          go_simp
          try rfl
        case kp40 =>
        go_simp
        refine wpMix_nil ?_
        simp only [opsAt, List.filterMap_cons, List.filterMap_nil, List.getElem?_toArray, List.getElem?_cons_succ, List.getElem?_cons_zero]
        go_wp2
        refine NoPanic.normal ?_
        go_wp2
        go_ret
        exact ⟨rfl, HB15.out.trans ((by assumption : Below w15.heap.size w15 w16).mono HB15.out.size)⟩

/-- The law, at whatever numbers came in. -/
theorem law_all (xs : List Int) (TA : Option Addr) (tc : Nat) (fr : Int) (w : World) (hA : Row w (Lt w.heap.size) TA (xs.map (Value.int .i64))) (hf : ∀ x ∈ xs, -9223372036854775808 ≤ x ∧ x ≤ 9223372036854775807) (h0 : -9223372036854775808 ≤ fr) (h1 : fr ≤ 9223372036854775807) :
    Calls Try.prog 5 #[.slice TA xs.length tc, .int .i64 fr] w fun e w' => e = .returned (.bool true) ∧ Below w.heap.size w w' := by
  by_cases h : xs.length ≤ 400
  · exact moves_light xs TA tc fr w hA h hf h0 h1
  · exact moves_heavy xs.length TA tc fr w h
end Go.Proofs.Ytmnhgkhidepojaa
