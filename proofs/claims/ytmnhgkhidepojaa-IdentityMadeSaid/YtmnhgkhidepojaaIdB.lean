/-
  The walks of identity.order, identity.sorted.
  Conditions: the arguments read as items.
-/
import Derived.Test.YtmnhgkhidepojaaIdA
import Derived.Test.YtmnhgkhidepojaaBsch
namespace Go.Proofs.Ytmnhgkhidepojaa
open Go.RowKit

def ordK (a b : Key) : Int := orI (cmpS a.1 b.1) (cmpS a.2 b.2)
theorem ordK_iff (a b : Key) : ordK a b < 0 ↔ ltKey a b = true := by
  unfold ordK orI cmpS ltKey
  by_cases h1 : a.1 = b.1
  · rw [if_pos h1, if_pos rfl, h1, bytesLess_irr]
    by_cases h2 : a.2 = b.2
    · rw [if_pos h2, h2, bytesLess_irr]; simp
    · rw [if_neg h2]
      cases Op.bytesLess a.2 b.2 <;> simp
  · rw [if_neg h1]
    cases Op.bytesLess a.1 b.1 <;> simp [h1]

set_option maxHeartbeats 400000 in
set_option maxRecDepth 100000 in
theorem order_any (x y : It) (w : World) : Calls Try.prog 34 #[itV x, itV y] w fun e w' => e = .returned (.int .i64 (ordK x.key y.key)) ∧ Below w.heap.size w w' := by
  have hc := alloc2 w (.cells #[sv x.md, sv x.nm, sv x.sh] 37) (.cells #[sv y.md, sv y.nm, sv y.sh] 37)
  have hb : Below w.heap.size w ((w.alloc (.cells #[sv x.md, sv x.nm, sv x.sh] 37)).alloc (.cells #[sv y.md, sv y.nm, sv y.sh] 37)) := ((Below.refl _ _).alloc (Nat.le_refl _) _).alloc (by simp) _
  have hs : ((w.alloc (.cells #[sv x.md, sv x.nm, sv x.sh] 37)).alloc (.cells #[sv y.md, sv y.nm, sv y.sh] 37)).heap.size = w.heap.size + 2 := by simp
  go_enter Try.func34, Try.ntmps34
  go_wp2_with fail
  obtain ⟨w1, hw1⟩ : ∃ w1, w1 = ((w.alloc (.cells #[sv x.md, sv x.nm, sv x.sh] 37)).alloc (.cells #[sv y.md, sv y.nm, sv y.sh] 37)) := ⟨_, rfl⟩
  rw [← hw1] at hb hc hs ⊢
  clear hw1
  have p0 : w1.cell? ⟨w.heap.size, 0, none⟩ = some (sv x.md) := (Lib.cell_of_heap hc.1 _).trans rfl
  have p1 : w1.cell? ⟨w.heap.size, 1, none⟩ = some (sv x.nm) := (Lib.cell_of_heap hc.1 _).trans rfl
  have q0 : w1.cell? ⟨w.heap.size + 1, 0, none⟩ = some (sv y.md) := (Lib.cell_of_heap hc.2 _).trans rfl
  have q1 : w1.cell? ⟨w.heap.size + 1, 1, none⟩ = some (sv y.nm) := (Lib.cell_of_heap hc.2 _).trans rfl
  have HB := Lib.hid hb
  have HS := Lib.hid hs
  clear hb hc hs
  refine wp_region_held' (fun w' => w'.cell? ⟨w.heap.size, 0, none⟩ = some (sv x.md) ∧ w'.cell? ⟨w.heap.size, 1, none⟩ = some (sv x.nm) ∧ w'.cell? ⟨w.heap.size + 1, 0, none⟩ = some (sv y.md) ∧ w'.cell? ⟨w.heap.size + 1, 1, none⟩ = some (sv y.nm)) [] [0, 1, 2, 3, 5, 6, 7, 8] [4, 9] [10, 11, 12] (by kernel_rfl) (by kernel_rfl) ?s0 ?h0
  case s0 => exact ⟨p0, p1, q0, q1⟩
  case h0 =>
    simp only [opsAt, List.filterMap_cons, List.filterMap_nil, List.getElem?_toArray, List.getElem?_cons_succ, List.getElem?_cons_zero]
    refine wpFloat_nil ?_
    refine wpLoad_step ?va0 rfl (fun w' hS => ?ya0) ?ka0
    case ya0 =>
      obtain ⟨g0, g1, g2, g3⟩ := hS
      go_simp
      try rfl
    case ka0 =>
    go_simp
    refine wpLoad_step ?va1 rfl (fun w' hS => ?ya1) ?ka1
    case ya1 =>
      obtain ⟨g0, g1, g2, g3⟩ := hS
      go_simp
      try rfl
    case ka1 =>
    go_simp
    refine wpLoad_step ?va2 rfl (fun w' hS => ?ya2) ?ka2
    case ya2 =>
      obtain ⟨g0, g1, g2, g3⟩ := hS
      go_simp
      try rfl
    case ka2 =>
    go_simp
    refine wpLoad_step ?va3 rfl (fun w' hS => ?ya3) ?ka3
    case ya3 =>
      obtain ⟨g0, g1, g2, g3⟩ := hS
      go_simp
      try rfl
    case ka3 =>
    go_simp
    refine wpLoad_step ?va4 rfl (fun w' hS => ?ya4) ?ka4
    case ya4 =>
      obtain ⟨g0, g1, g2, g3⟩ := hS
      go_simp
      try rfl
    case ka4 =>
    go_simp
    refine wpLoad_step ?va5 rfl (fun w' hS => ?ya5) ?ka5
    case ya5 =>
      obtain ⟨g0, g1, g2, g3⟩ := hS
      go_simp
      try rfl
    case ka5 =>
    go_simp
    refine wpLoad_step ?va6 rfl (fun w' hS => ?ya6) ?ka6
    case ya6 =>
      obtain ⟨g0, g1, g2, g3⟩ := hS
      go_simp
      try rfl
    case ka6 =>
    go_simp
    refine wpLoad_step ?va7 rfl (fun w' hS => ?ya7) ?ka7
    case ya7 =>
      obtain ⟨g0, g1, g2, g3⟩ := hS
      go_simp
      try rfl
    case ka7 =>
    go_simp
    refine wpLoad_nil ?_
    refine wpKeep_step rfl ?_
    go_simp
    refine (cmpS_any _ _ _).mono ?_
    rintro e wa ⟨rfl, rfl⟩
    refine ⟨⟨p0, p1, q0, q1⟩, ?_⟩
    refine wpKeep_step rfl ?_
    go_simp
    refine (cmpS_any _ _ _).mono ?_
    rintro e wa ⟨rfl, rfl⟩
    refine ⟨⟨p0, p1, q0, q1⟩, ?_⟩
    refine wpKeep_nil ?_
    have hn := alloc1 w1 (.cells #[.int .i64 (cmpS x.md y.md), .int .i64 (cmpS x.nm y.nm)] 3)
    have k0 : (w1.alloc (.cells #[.int .i64 (cmpS x.md y.md), .int .i64 (cmpS x.nm y.nm)] 3)).drew.cell? (Addr.add ⟨w1.heap.size, 0, none⟩ 0) = some (.int .i64 (cmpS x.md y.md)) := (Lib.cell_of_heap hn _).trans rfl
    have k1 : (w1.alloc (.cells #[.int .i64 (cmpS x.md y.md), .int .i64 (cmpS x.nm y.nm)] 3)).drew.cell? (Addr.add ⟨w1.heap.size, 0, none⟩ 1) = some (.int .i64 (cmpS x.nm y.nm)) := (Lib.cell_of_heap hn _).trans rfl
    have HC := Lib.hid (or_any _ _ _ _ k0 k1)
    clear k0 k1 hn p0 p1 q0 q1
    go_wp2_with fail
    refine HC.out.mono ?_
    rintro e wc ⟨rfl, rfl⟩
    go_wp2
    refine NoPanic.normal ?_
    go_wp2
    go_ret
    refine ⟨rfl, HB.out.trans ?_⟩
    exact ((Below.refl _ _).alloc (by have := HS.out; omega) _).drew

set_option maxHeartbeats 400000 in
set_option maxRecDepth 100000 in
theorem sorted_any (l : List It) (A : Option Addr) (c : Nat) (w : World) (hl : l.length ≤ 1000) (h : Row w (Lt w.heap.size) A (flt itC l)) :
    Calls Try.prog 27 #[.slice A l.length c] w (Says (Asc l) w) := by
  obtain ⟨n, hn⟩ : ∃ n, n = l.length := ⟨_, rfl⟩
  rw [← hn] at hl ⊢
  have HN := Lib.hid hn
  have HR := Lib.hid h
  clear hn h
  go_enter Try.func27, Try.ntmps27
  go_wp2_with fail
  go_loopw [3] (fun i wr => ∃ k : Nat, 1 ≤ k ∧ k ≤ n + 1 ∧ i = .int .i64 k ∧ Below w.heap.size w wr ∧ ∀ j a b, j + 1 < k → l[j]? = some a → l[j + 1]? = some b → ltKey a.key b.key = true) (fun i _ => n + 1 - (intOf i).toNat)
  case atStart => exact ⟨1, by omega, by omega, rfl, Below.refl _ _, fun j a b hj => by omega⟩
  case round =>
    obtain ⟨k, hk1, hk2, rfl, hB, hP⟩ := hrel
    have HP := Lib.hid hP
    clear hP
    have hsz := hB.size
    by_cases hlt : k < n
    · obtain ⟨a, ha⟩ : ∃ a, l[k - 1]? = some a := ⟨_, List.getElem?_eq_getElem (by rw [← HN.out]; omega)⟩
      obtain ⟨b, hb⟩ : ∃ b, l[k]? = some b := ⟨_, List.getElem?_eq_getElem (by rw [← HN.out]; exact hlt)⟩
      have hr := HR.out.keep (kept_below hB)
      obtain ⟨ad, rfl, hS, a0, a1, a2⟩ := it_at hr ha
      obtain ⟨ad', e', _, b0, b1, b2⟩ := it_at hr hb
      obtain rfl := Option.some.inj e'
      have HB := Lib.hid hB
      have HA := Lib.hid ha
      have HBB := Lib.hid hb
      have hwr : IntKind.i64.wrap ((k - 1 : Nat) : Int) = ((k - 1 : Nat) : Int) := by rw [IntKind.wrap_i64]; omega
      have hsub : ((k : Int) - 1) = ((k - 1 : Nat) : Int) := by omega
      obtain ⟨k0, hk0⟩ : ∃ k0, k0 = k - 1 := ⟨_, rfl⟩
      rw [← hk0] at a0 a1 a2 hsub hwr HA
      have HK0 := Lib.hid hk0
      have hkn : k0 < n := by omega
      have hik : (0 : Int) ≤ (k0 : Int) ∧ (k0 : Int) < (n : Int) := ⟨by omega, by omega⟩
      clear hB ha hb hr hk0
      go_wp2_with fail
      refine wp_region_held' (fun w' => w'.cell? (ad.add (k0 * 3)) = some (sv a.md) ∧ w'.cell? ⟨(ad.add (k0 * 3)).block, (ad.add (k0 * 3)).off + 1, none⟩ = some (sv a.nm) ∧ w'.cell? ⟨(ad.add (k0 * 3)).block, (ad.add (k0 * 3)).off + 2, none⟩ = some (sv a.sh) ∧
        w'.cell? (ad.add (k * 3)) = some (sv b.md) ∧ w'.cell? ⟨(ad.add (k * 3)).block, (ad.add (k * 3)).off + 1, none⟩ = some (sv b.nm) ∧ w'.cell? ⟨(ad.add (k * 3)).block, (ad.add (k * 3)).off + 2, none⟩ = some (sv b.sh)) [] [0, 1, 2, 3, 4, 5, 6, 7, 8] [9] [10] (by kernel_rfl) (by kernel_rfl) ?s0 ?h0
      case s0 => exact ⟨a0, a1, a2, b0, b1, b2⟩
      case h0 =>
        simp only [opsAt, List.filterMap_cons, List.filterMap_nil, List.getElem?_toArray, List.getElem?_cons_succ, List.getElem?_cons_zero]
        refine wpFloat_nil ?_
        refine wpLoad_step ?va0 rfl (fun w' hS => ?ya0) ?ka0
        case ya0 =>
          obtain ⟨g0, g1, g2, g3, g4, g5⟩ := hS
          go_simp
          try rfl
        case ka0 =>
        go_simp
        refine wpLoad_step ?va1 rfl (fun w' hS => ?ya1) ?ka1
        case ya1 =>
          obtain ⟨g0, g1, g2, g3, g4, g5⟩ := hS
          go_simp
          try rfl
        case ka1 =>
        go_simp
        refine wpLoad_step ?va2 rfl (fun w' hS => ?ya2) ?ka2
        case ya2 =>
          obtain ⟨g0, g1, g2, g3, g4, g5⟩ := hS
          go_simp
          try rfl
        case ka2 =>
        go_simp
        refine wpLoad_step ?va3 rfl (fun w' hS => ?ya3) ?ka3
        case ya3 =>
          obtain ⟨g0, g1, g2, g3, g4, g5⟩ := hS
          go_simp
          try rfl
        case ka3 =>
        go_simp
        refine wpLoad_step ?va4 rfl (fun w' hS => ?ya4) ?ka4
        case ya4 =>
          obtain ⟨g0, g1, g2, g3, g4, g5⟩ := hS
          go_simp
          try rfl
        case ka4 =>
        go_simp
        refine wpLoad_step ?va5 rfl (fun w' hS => ?ya5) ?ka5
        case ya5 =>
          obtain ⟨g0, g1, g2, g3, g4, g5⟩ := hS
          go_simp
          try rfl
        case ka5 =>
        go_simp
        refine wpLoad_step ?va6 rfl (fun w' hS => ?ya6) ?ka6
        case ya6 =>
          obtain ⟨g0, g1, g2, g3, g4, g5⟩ := hS
          go_simp
          try rfl
        case ka6 =>
        go_simp
        refine wpLoad_step ?va7 rfl (fun w' hS => ?ya7) ?ka7
        case ya7 =>
          obtain ⟨g0, g1, g2, g3, g4, g5⟩ := hS
          go_simp
          try rfl
        case ka7 =>
        go_simp
        refine wpLoad_step ?va8 rfl (fun w' hS => ?ya8) ?ka8
        case ya8 =>
          obtain ⟨g0, g1, g2, g3, g4, g5⟩ := hS
          go_simp
          try rfl
        case ka8 =>
        go_simp
        refine wpLoad_nil ?_
        refine wpKeep_step rfl ?_
        go_simp
        refine (order_any a b wr.drew).mono ?_
        rintro e wa ⟨rfl, hba⟩
        have hk := kept_below hba
        have hbw : Below w.heap.size w wa := HB.out.trans (Below.mono ((Below.refl _ wr).drew.trans hba) hsz)
        have HBA := Lib.hid hbw
        refine ⟨⟨(hk _ (block_lt_of_cell a0)).trans a0, (hk _ (block_lt_of_cell a1)).trans a1, (hk _ (block_lt_of_cell a2)).trans a2, (hk _ (block_lt_of_cell b0)).trans b0, (hk _ (block_lt_of_cell b1)).trans b1, (hk _ (block_lt_of_cell b2)).trans b2⟩, ?_⟩
        clear a0 a1 a2 b0 b1 b2 hk hba hbw
        have hpl := ordK_iff a.key b.key
        by_cases hlt2 : ltKey a.key b.key = true
        · have hneg : ordK a.key b.key < 0 := hpl.2 hlt2
          have hd : decide (ordK a.key b.key ≥ 0) = false := by simp; omega
          have hd2 : ¬ (0 ≤ ordK a.key b.key) := by omega
          refine wpKeep_nil ?_
          go_wp2
          refine NoPanic.normal ?_
          go_wp2
          go_roundw
          case rel =>
            refine ⟨k + 1, by omega, by omega, by go_num, HBA.out, fun j x y hj hx hy => ?_⟩
            by_cases hjk : j + 1 < k
            · exact HP.out j x y hjk hx hy
            · have hjk' : j = k0 := by have := HK0.out; omega
              subst hjk'
              have e1 := HA.out
              have e2 := HBB.out
              rw [show k = j + 1 by have := HK0.out; omega] at e2
              rw [e1] at hx
              rw [e2] at hy
              cases hx
              cases hy
              exact hlt2
          case measure => simp [intOf]; omega
        · have hneg : ¬ ordK a.key b.key < 0 := fun e => hlt2 (hpl.1 e)
          have hd : decide (ordK a.key b.key ≥ 0) = true := by simp; omega
          have hd2 : 0 ≤ ordK a.key b.key := by omega
          refine wpKeep_nil ?_
          go_wp2
          refine NoPanic.normal ?_
          go_wp2
          go_ret
          refine ⟨_, rfl, ⟨(fun h => by cases h), fun h => ?_⟩, HBA.out⟩
          have e2 := HBB.out
          rw [show k = k0 + 1 by have := HK0.out; omega] at e2
          exact absurd (h _ _ _ HA.out e2) hlt2
    · have HB := Lib.hid hB
      clear hB
      go_wp2
      go_ret
      refine ⟨_, rfl, ⟨fun _ => ?_, fun _ => rfl⟩, HB.out⟩
      intro j x y hx hy
      have hjl := (List.getElem?_eq_some_iff.1 hy).1
      exact HP.out j x y (by have := HN.out; omega) hx hy
end Go.Proofs.Ytmnhgkhidepojaa
