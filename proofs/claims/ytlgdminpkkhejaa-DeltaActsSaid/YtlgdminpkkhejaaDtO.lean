/-
  The walks of strings.Compare, cmp.Compare, cmp.Or, delta.compare, the order of moves, ref40.less.
  Conditions: none.
-/
import Derived.Test.YtlgdminpkkhejaaDtM
import Derived.Lib.Bytealg
import Derived.Sort.Grow
namespace Go.Proofs.Ytlgdminpkkhejaa
open Go.RowKit Go.Sort

theorem cmpB : ∀ a b : List UInt8, Lib.compareBytes a b = cmpS a b
  | [], [] => rfl
  | [], b :: y => rfl
  | a :: x, [] => rfl
  | a :: x, b :: y => by
    have hbl : Op.bytesLess (a :: x) (b :: y) = (decide (a < b) || (a == b && Op.bytesLess x y)) := rfl
    unfold Lib.compareBytes
    rw [cmpB x y]
    unfold cmpS
    rw [hbl]
    by_cases h1 : a < b
    · have hne : ¬ a = b := fun e => by subst e; exact absurd h1 (UInt8.lt_irrefl a)
      simp [h1, hne]
    · by_cases h2 : b < a
      · have hne : ¬ a = b := fun e => by subst e; exact absurd h2 (UInt8.lt_irrefl a)
        simp [h1, h2, hne]
      · have hab : a = b := by
          rw [UInt8.not_lt] at h1 h2
          exact UInt8.le_antisymm h2 h1
        subst hab
        simp
def cmpI (a b : Int) : Int := if a < b then -1 else if b < a then 1 else 0
def orL : List Int → Int
  | [] => 0
  | a :: r => if a = 0 then orL r else a
def cmpM (a b : Msg) : Int := orL [cmpI a.1 b.1, cmpI a.2.1 b.2.1, cmpS a.2.2 b.2.2]
def cmpV (a b : Mv) : Int := orL [cmpM a.2.2 b.2.2, cmpI a.1 b.1]
theorem cmpM_iff (a b : Msg) : cmpM a b < 0 ↔ ltM a b = true := by
  unfold cmpM ltM orL orL orL orL cmpI cmpS
  by_cases h1 : a.1 < b.1
  · simp [h1]
  · by_cases h2 : b.1 < a.1
    · have : ¬ a.1 = b.1 := by omega
      simp [h1, h2, this]
    · have e1 : a.1 = b.1 := by omega
      by_cases h3 : a.2.1 < b.2.1
      · simp [e1, h3]
      · by_cases h4 : b.2.1 < a.2.1
        · have : ¬ a.2.1 = b.2.1 := by omega
          simp [e1, h3, h4, this]
        · have e2 : a.2.1 = b.2.1 := by omega
          by_cases h5 : a.2.2 = b.2.2
          · simp [e1, e2, h5, bytesLess_irr]
          · cases Op.bytesLess a.2.2 b.2.2 <;> simp [e1, e2, h5]
theorem cmpM_zero (a b : Msg) : cmpM a b = 0 ↔ a = b := by
  unfold cmpM orL orL orL orL cmpI cmpS
  by_cases h1 : a.1 < b.1
  · have : ¬ a = b := fun e => by rw [e] at h1; omega
    simp [h1, this]
  · by_cases h2 : b.1 < a.1
    · have : ¬ a = b := fun e => by rw [e] at h2; omega
      simp [h1, h2, this]
    · have e1 : a.1 = b.1 := by omega
      by_cases h3 : a.2.1 < b.2.1
      · have : ¬ a = b := fun e => by rw [e] at h3; omega
        simp [e1, h3, this]
      · by_cases h4 : b.2.1 < a.2.1
        · have : ¬ a = b := fun e => by rw [e] at h4; omega
          simp [e1, h3, h4, this]
        · have e2 : a.2.1 = b.2.1 := by omega
          by_cases h5 : a.2.2 = b.2.2
          · simp [e1, e2, h5, Prod.ext_iff]
          · cases Op.bytesLess a.2.2 b.2.2 <;> simp [e1, e2, h5, Prod.ext_iff]

set_option maxHeartbeats 1000000 in
set_option maxRecDepth 100000 in
theorem bcmp_any (a b : List UInt8) (w : World) : Calls Try.prog 52 #[sv a, sv b] w fun e w' => e = .returned (.int .i64 (cmpS a b)) ∧ w' = w := by
  go_enter Try.func52, Try.ntmps52
  go_wp2
  rw [run_callFunc_extern Try.func60 (by kernel_rfl) (by kernel_rfl) (by kernel_rfl) (e := Extern.BytealgCompare.compare) (by kernel_rfl), Lib.run_compareString]
  simp only [Result.andThen, bs_data, cmpB]
  rw [Oper.upon_value]
  go_wp2
  go_ret
  exact ⟨rfl, rfl⟩
set_option maxHeartbeats 1000000 in
set_option maxRecDepth 100000 in
theorem scmp_any (a b : List UInt8) (w : World) : Calls Try.prog 38 #[sv a, sv b] w fun e w' => e = .returned (.int .i64 (cmpS a b)) ∧ w' = w := by
  go_enter Try.func38, Try.ntmps38
  go_wp2_with fail
  refine (bcmp_any a b w).mono ?_
  rintro e w' ⟨rfl, rfl⟩
  go_wp2
  go_ret
  exact ⟨rfl, rfl⟩
set_option maxHeartbeats 1000000 in
set_option maxRecDepth 100000 in
theorem nan_any (a : Int) (w : World) : Calls Try.prog 41 #[.int .i64 a] w fun e w' => e = .returned (.bool false) ∧ w' = w := by
  go_enter Try.func41, Try.ntmps41
  go_wp2
  go_ret
  exact ⟨rfl, rfl⟩
set_option maxHeartbeats 1000000 in
set_option maxRecDepth 100000 in
theorem icmp_any (a b : Int) (w : World) : Calls Try.prog 33 #[.int .i64 a, .int .i64 b] w fun e w' => e = .returned (.int .i64 (cmpI a b)) ∧ w' = w := by
  unfold cmpI
  by_cases h1 : a < b
  · rw [if_pos h1]
    go_enter Try.func33, Try.ntmps33
    go_wp2_with fail
    refine (nan_any a w).mono ?_
    rintro e w1 ⟨rfl, rfl⟩
    go_wp2_with fail
    refine (nan_any b w1).mono ?_
    rintro e w2 ⟨rfl, rfl⟩
    go_wp2
    go_ret
    exact ⟨rfl, rfl⟩
  · rw [if_neg h1]
    by_cases h2 : b < a
    · rw [if_pos h2]
      go_enter Try.func33, Try.ntmps33
      go_wp2_with fail
      refine (nan_any a w).mono ?_
      rintro e w1 ⟨rfl, rfl⟩
      go_wp2_with fail
      refine (nan_any b w1).mono ?_
      rintro e w2 ⟨rfl, rfl⟩
      go_wp2
      go_ret
      exact ⟨rfl, rfl⟩
    · rw [if_neg h2]
      go_enter Try.func33, Try.ntmps33
      go_wp2_with fail
      refine (nan_any a w).mono ?_
      rintro e w1 ⟨rfl, rfl⟩
      go_wp2_with fail
      refine (nan_any b w1).mono ?_
      rintro e w2 ⟨rfl, rfl⟩
      go_wp2
      go_ret
      exact ⟨rfl, rfl⟩

set_option maxHeartbeats 1000000 in
set_option maxRecDepth 100000 in
theorem or_any (S : Nat → Prop) (xs : List Int) (A : Option Addr) (c : Nat) (w : World) (hl : xs.length ≤ 100) (h : Row w S A (xs.map (Value.int .i64))) :
    Calls Try.prog 32 #[.slice A xs.length c] w fun e w' => e = .returned (.int .i64 (orL xs)) ∧ w' = w := by
  obtain ⟨n, hn⟩ : ∃ n, n = xs.length := ⟨_, rfl⟩
  rw [← hn] at hl ⊢
  have HN := Lib.hid hn
  have HR := Lib.hid h
  clear hn h
  go_enter Try.func32, Try.ntmps32
  go_wp2_with fail
  go_loopw [8] (fun i wr => ∃ k : Nat, k ≤ n ∧ i = .int .i64 k ∧ wr = w ∧ orL xs = orL (xs.drop k)) (fun i _ => n - (intOf i).toNat)
  case atStart => exact ⟨0, by omega, rfl, rfl, rfl⟩
  case round =>
    obtain ⟨k, hk, rfl, rfl, ho⟩ := hrel
    have HO := Lib.hid ho
    clear ho
    by_cases hlt : k < n
    · obtain ⟨z, hz⟩ : ∃ z, xs[k]? = some z := ⟨_, List.getElem?_eq_getElem (by rw [← HN.out]; exact hlt)⟩
      obtain ⟨ad, rfl, _, a0⟩ := HR.out.at_ (k := k) (u := .int .i64 z) (by rw [List.getElem?_map, hz]; rfl)
      have hd : xs.drop k = z :: xs.drop (k + 1) := by
        obtain ⟨h1, h2⟩ := List.getElem?_eq_some_iff.1 hz
        rw [List.drop_eq_getElem_cons h1, h2]
      have HD := Lib.hid hd
      have hik : (0 : Int) ≤ (k : Int) ∧ (k : Int) < (n : Int) := ⟨by omega, by omega⟩
      clear hz hd
      by_cases h0 : z = 0
      · subst h0
        go_wp2_with fail
        go_roundw
        case rel => exact ⟨k + 1, by omega, by go_num, by trivial, by rw [HO.out, HD.out]; rfl⟩
        case measure => simp [intOf]; omega
      · have hq : (z == 0) = false := by simpa using h0
        have H0 := Lib.hid h0
        clear h0
        go_wp2
        go_ret
        refine ⟨ret_int ?_, rfl⟩
        rw [HO.out, HD.out]
        exact (if_neg H0.out).symm
    · go_wp2
      go_ret
      refine ⟨ret_int ?_, rfl⟩
      rw [HO.out, List.drop_eq_nil_of_le (by rw [← HN.out]; omega)]
      rfl

set_option maxHeartbeats 1000000 in
set_option maxRecDepth 100000 in
theorem compare_any (x y : Msg) (w : World) : Calls Try.prog 26 #[msV x, msV y] w fun e w' => e = .returned (.int .i64 (cmpM x y)) ∧ ∃ q os, w' = grow (w.drewN q) os := by
  have hc := alloc2 w (.cells (msC x).toArray 40) (.cells (msC y).toArray 40)
  have hb : Below w.heap.size w ((w.alloc (.cells (msC x).toArray 40)).alloc (.cells (msC y).toArray 40)) := ((Below.refl _ _).alloc (Nat.le_refl _) _).alloc (by simp) _
  have hs : ((w.alloc (.cells (msC x).toArray 40)).alloc (.cells (msC y).toArray 40)).heap.size = w.heap.size + 2 := by simp
  go_enter Try.func26, Try.ntmps26
  go_wp2_with fail
  obtain ⟨w1, hw1⟩ : ∃ w1, w1 = ((w.alloc (.cells (msC x).toArray 40)).alloc (.cells (msC y).toArray 40)) := ⟨_, rfl⟩
  rw [← hw1] at hb hc hs
  have hw1' := hw1
  unfold msC at hw1'
  rw [← hw1']
  have HW := Lib.hid hw1
  clear hw1 hw1'
  obtain ⟨p0, p1, p2⟩ := ms_blk hc.1 rfl
  obtain ⟨q0, q1, q2⟩ := ms_blk hc.2 rfl
  have HB := Lib.hid hb
  have HS := Lib.hid hs
  clear hb hc hs
  refine wp_region_held' (AtCells [(⟨w.heap.size, 0, none⟩, .int .i64 x.1), (⟨w.heap.size, 0 + 1, none⟩, .int .i64 x.2.1), (⟨w.heap.size, 0 + 2, none⟩, sv x.2.2), (⟨w.heap.size + 1, 0, none⟩, .int .i64 y.1), (⟨w.heap.size + 1, 0 + 1, none⟩, .int .i64 y.2.1), (⟨w.heap.size + 1, 0 + 2, none⟩, sv y.2.2)]) [] [0, 1, 2, 3, 5, 6, 7, 8, 10, 11, 12, 13] [4, 9, 14] [15, 16, 17] (by kernel_rfl) (by kernel_rfl) ?s0 ?h0
  case s0 => exact ⟨p0, p1, p2, q0, q1, q2, trivial⟩
  case h0 =>
    have HC : Hid (AtCells [(⟨w.heap.size, 0, none⟩, .int .i64 x.1), (⟨w.heap.size, 0 + 1, none⟩, .int .i64 x.2.1), (⟨w.heap.size, 0 + 2, none⟩, sv x.2.2), (⟨w.heap.size + 1, 0, none⟩, .int .i64 y.1), (⟨w.heap.size + 1, 0 + 1, none⟩, .int .i64 y.2.1), (⟨w.heap.size + 1, 0 + 2, none⟩, sv y.2.2)] w1.drew) := Lib.hid ⟨p0, p1, p2, q0, q1, q2, trivial⟩
    clear p0 p1 p2 q0 q1 q2
    simp only [opsAt, List.filterMap_cons, List.filterMap_nil, List.getElem?_toArray, List.getElem?_cons_succ, List.getElem?_cons_zero]
    refine wpFloat_nil ?_
    refine wpLoad_step ?va0 rfl (fun w' hS => ?ya0) ?ka0
    case ya0 =>
      obtain ⟨g0, g1, g2, g3, g4, g5, _⟩ := hS
      go_simp
      try rfl
    case ka0 =>
    go_simp
    refine wpLoad_step ?va1 rfl (fun w' hS => ?ya1) ?ka1
    case ya1 =>
      obtain ⟨g0, g1, g2, g3, g4, g5, _⟩ := hS
      go_simp
      try rfl
    case ka1 =>
    go_simp
    refine wpLoad_step ?va2 rfl (fun w' hS => ?ya2) ?ka2
    case ya2 =>
      obtain ⟨g0, g1, g2, g3, g4, g5, _⟩ := hS
      go_simp
      try rfl
    case ka2 =>
    go_simp
    refine wpLoad_step ?va3 rfl (fun w' hS => ?ya3) ?ka3
    case ya3 =>
      obtain ⟨g0, g1, g2, g3, g4, g5, _⟩ := hS
      go_simp
      try rfl
    case ka3 =>
    go_simp
    refine wpLoad_step ?va4 rfl (fun w' hS => ?ya4) ?ka4
    case ya4 =>
      obtain ⟨g0, g1, g2, g3, g4, g5, _⟩ := hS
      go_simp
      try rfl
    case ka4 =>
    go_simp
    refine wpLoad_step ?va5 rfl (fun w' hS => ?ya5) ?ka5
    case ya5 =>
      obtain ⟨g0, g1, g2, g3, g4, g5, _⟩ := hS
      go_simp
      try rfl
    case ka5 =>
    go_simp
    refine wpLoad_step ?va6 rfl (fun w' hS => ?ya6) ?ka6
    case ya6 =>
      obtain ⟨g0, g1, g2, g3, g4, g5, _⟩ := hS
      go_simp
      try rfl
    case ka6 =>
    go_simp
    refine wpLoad_step ?va7 rfl (fun w' hS => ?ya7) ?ka7
    case ya7 =>
      obtain ⟨g0, g1, g2, g3, g4, g5, _⟩ := hS
      go_simp
      try rfl
    case ka7 =>
    go_simp
    refine wpLoad_step ?va8 rfl (fun w' hS => ?ya8) ?ka8
    case ya8 =>
      obtain ⟨g0, g1, g2, g3, g4, g5, _⟩ := hS
      go_simp
      try rfl
    case ka8 =>
    go_simp
    refine wpLoad_step ?va9 rfl (fun w' hS => ?ya9) ?ka9
    case ya9 =>
      obtain ⟨g0, g1, g2, g3, g4, g5, _⟩ := hS
      go_simp
      try rfl
    case ka9 =>
    go_simp
    refine wpLoad_step ?va10 rfl (fun w' hS => ?ya10) ?ka10
    case ya10 =>
      obtain ⟨g0, g1, g2, g3, g4, g5, _⟩ := hS
      go_simp
      try rfl
    case ka10 =>
    go_simp
    refine wpLoad_step ?va11 rfl (fun w' hS => ?ya11) ?ka11
    case ya11 =>
      obtain ⟨g0, g1, g2, g3, g4, g5, _⟩ := hS
      go_simp
      try rfl
    case ka11 =>
    go_simp
    refine wpLoad_nil ?_
    refine wpKeep_step rfl ?_
    go_simp
    refine (icmp_any _ _ _).mono ?_
    rintro e wa ⟨rfl, rfl⟩
    refine ⟨HC.out, ?_⟩
    refine wpKeep_step rfl ?_
    go_simp
    refine (icmp_any _ _ _).mono ?_
    rintro e wa ⟨rfl, rfl⟩
    refine ⟨HC.out, ?_⟩
    refine wpKeep_step rfl ?_
    go_simp
    refine (scmp_any _ _ _).mono ?_
    rintro e wa ⟨rfl, rfl⟩
    refine ⟨HC.out, ?_⟩
    refine wpKeep_nil ?_
    have hn := alloc1 w1.drew (.cells #[.int .i64 (cmpI x.1 y.1), .int .i64 (cmpI x.2.1 y.2.1), .int .i64 (cmpS x.2.2 y.2.2)] 3)
    have hor := or_any (fun _ => True) [cmpI x.1 y.1, cmpI x.2.1 y.2.1, cmpS x.2.2 y.2.2] (some ⟨w1.drew.heap.size, 0, none⟩) 3 _ (by simp) (row_heap hn rfl trivial)
    have HOR := Lib.hid hor
    clear hn hor
    go_wp2_with fail
    refine HOR.out.mono ?_
    rintro e wc ⟨rfl, rfl⟩
    go_wp2
    refine NoPanic.normal ?_
    go_wp2
    go_ret
    refine ⟨rfl, 1, #[.cells (msC x).toArray 40, .cells (msC y).toArray 40, .cells #[.int .i64 (cmpI x.1 y.1), .int .i64 (cmpI x.2.1 y.2.1), .int .i64 (cmpS x.2.2 y.2.2)] 3], ?_⟩
    rw [HW.out]
    simp only [alloc_eq_grow, grow_grow, drew_grow]
    rfl

theorem belowGrow (w : World) (q : Nat) (os : Array Obj) : Below w.heap.size w (grow (w.drewN q) os) :=
  ⟨rfl, rfl, rfl, by show w.heap.size ≤ (w.heap ++ os).size; rw [Array.size_append]; omega, fun b hb => by show (w.heap ++ os)[b]? = _; rw [Array.getElem?_append_left hb]⟩
set_option maxHeartbeats 1000000 in
set_option maxRecDepth 100000 in
theorem mcmp_any (x y : Mv) (w : World) : Calls Try.prog 31 #[mvV x, mvV y] w fun e w' => e = .returned (.int .i64 (cmpV x y)) ∧ Below w.heap.size w w' := by
  have hc := alloc2 w (.cells (mvC x).toArray 42) (.cells (mvC y).toArray 42)
  have hb : Below w.heap.size w ((w.alloc (.cells (mvC x).toArray 42)).alloc (.cells (mvC y).toArray 42)) := ((Below.refl _ _).alloc (Nat.le_refl _) _).alloc (by simp) _
  go_enter Try.func31, Try.ntmps31
  go_wp2_with fail
  obtain ⟨w1, hw1⟩ : ∃ w1, w1 = ((w.alloc (.cells (mvC x).toArray 42)).alloc (.cells (mvC y).toArray 42)) := ⟨_, rfl⟩
  rw [← hw1] at hb hc
  have hw1' := hw1
  unfold mvC at hw1'
  rw [← hw1']
  clear hw1 hw1'
  have p0 : w1.cell? ⟨w.heap.size, 0, none⟩ = some (.int .i64 x.1) := (Lib.cell_of_heap hc.1 _).trans rfl
  have p2 : w1.cell? ⟨w.heap.size, 2, none⟩ = some (.int .i64 x.2.2.1) := (Lib.cell_of_heap hc.1 _).trans rfl
  have p3 : w1.cell? ⟨w.heap.size, 3, none⟩ = some (.int .i64 x.2.2.2.1) := (Lib.cell_of_heap hc.1 _).trans rfl
  have p4 : w1.cell? ⟨w.heap.size, 4, none⟩ = some (sv x.2.2.2.2) := (Lib.cell_of_heap hc.1 _).trans rfl
  have q0 : w1.cell? ⟨w.heap.size + 1, 0, none⟩ = some (.int .i64 y.1) := (Lib.cell_of_heap hc.2 _).trans rfl
  have q2 : w1.cell? ⟨w.heap.size + 1, 2, none⟩ = some (.int .i64 y.2.2.1) := (Lib.cell_of_heap hc.2 _).trans rfl
  have q3 : w1.cell? ⟨w.heap.size + 1, 3, none⟩ = some (.int .i64 y.2.2.2.1) := (Lib.cell_of_heap hc.2 _).trans rfl
  have q4 : w1.cell? ⟨w.heap.size + 1, 4, none⟩ = some (sv y.2.2.2.2) := (Lib.cell_of_heap hc.2 _).trans rfl
  have HB := Lib.hid hb
  have HC : Hid (AtCells [(⟨w.heap.size, 0, none⟩, .int .i64 x.1), (⟨w.heap.size, 2, none⟩, .int .i64 x.2.2.1), (⟨w.heap.size, 3, none⟩, .int .i64 x.2.2.2.1), (⟨w.heap.size, 4, none⟩, sv x.2.2.2.2), (⟨w.heap.size + 1, 0, none⟩, .int .i64 y.1), (⟨w.heap.size + 1, 2, none⟩, .int .i64 y.2.2.1), (⟨w.heap.size + 1, 3, none⟩, .int .i64 y.2.2.2.1), (⟨w.heap.size + 1, 4, none⟩, sv y.2.2.2.2)] w1) := Lib.hid ⟨p0, p2, p3, p4, q0, q2, q3, q4, trivial⟩
  clear hb hc p0 p2 p3 p4 q0 q2 q3 q4
  refine wp_region_held' (AtCells [(⟨w.heap.size, 0, none⟩, .int .i64 x.1), (⟨w.heap.size, 2, none⟩, .int .i64 x.2.2.1), (⟨w.heap.size, 3, none⟩, .int .i64 x.2.2.2.1), (⟨w.heap.size, 4, none⟩, sv x.2.2.2.2), (⟨w.heap.size + 1, 0, none⟩, .int .i64 y.1), (⟨w.heap.size + 1, 2, none⟩, .int .i64 y.2.2.1), (⟨w.heap.size + 1, 3, none⟩, .int .i64 y.2.2.2.1), (⟨w.heap.size + 1, 4, none⟩, sv y.2.2.2.2)]) [] [0, 1, 2, 3, 5, 6, 7, 8] [4, 9] [10, 11, 12] (by kernel_rfl) (by kernel_rfl) ?s0 ?h0
  case s0 => exact HC.out.below (Below.refl _ w1).drew
  case h0 =>
    simp only [opsAt, List.filterMap_cons, List.filterMap_nil, List.getElem?_toArray, List.getElem?_cons_succ, List.getElem?_cons_zero]
    refine wpFloat_nil ?_
    refine wpLoad_step ?va0 rfl (fun w' hS => ?ya0) ?ka0
    case ya0 =>
      obtain ⟨g0, g1, g2, g3, g4, g5, g6, g7, _⟩ := hS
      go_simp
      try rfl
    case ka0 =>
    go_simp
    refine wpLoad_step ?va1 rfl (fun w' hS => ?ya1) ?ka1
    case ya1 =>
      obtain ⟨g0, g1, g2, g3, g4, g5, g6, g7, _⟩ := hS
      go_simp
      try rfl
    case ka1 =>
    go_simp
    refine wpLoad_step ?va2 rfl (fun w' hS => ?ya2) ?ka2
    case ya2 =>
      obtain ⟨g0, g1, g2, g3, g4, g5, g6, g7, _⟩ := hS
      go_simp
      try rfl
    case ka2 =>
    go_simp
    refine wpLoad_step ?va3 rfl (fun w' hS => ?ya3) ?ka3
    case ya3 =>
      obtain ⟨g0, g1, g2, g3, g4, g5, g6, g7, _⟩ := hS
      go_simp
      try rfl
    case ka3 =>
    go_simp
    refine wpLoad_step ?va4 rfl (fun w' hS => ?ya4) ?ka4
    case ya4 =>
      obtain ⟨g0, g1, g2, g3, g4, g5, g6, g7, _⟩ := hS
      go_simp
      try rfl
    case ka4 =>
    go_simp
    refine wpLoad_step ?va5 rfl (fun w' hS => ?ya5) ?ka5
    case ya5 =>
      obtain ⟨g0, g1, g2, g3, g4, g5, g6, g7, _⟩ := hS
      go_simp
      try rfl
    case ka5 =>
    go_simp
    refine wpLoad_step ?va6 rfl (fun w' hS => ?ya6) ?ka6
    case ya6 =>
      obtain ⟨g0, g1, g2, g3, g4, g5, g6, g7, _⟩ := hS
      go_simp
      try rfl
    case ka6 =>
    go_simp
    refine wpLoad_step ?va7 rfl (fun w' hS => ?ya7) ?ka7
    case ya7 =>
      obtain ⟨g0, g1, g2, g3, g4, g5, g6, g7, _⟩ := hS
      go_simp
      try rfl
    case ka7 =>
    go_simp
    refine wpLoad_nil ?_
    refine wpKeep_step rfl ?_
    go_simp
    refine (compare_any x.2.2 y.2.2 _).mono ?_
    rintro e wa ⟨rfl, q, os, hwa⟩
    have hba : Below w1.heap.size w1 wa := by rw [hwa]; exact (Below.refl _ w1).drew.trans (belowGrow w1.drew q os)
    refine ⟨HC.out.below hba, ?_⟩
    have HBA := Lib.hid hba
    clear hwa hba
    refine wpKeep_step rfl ?_
    go_simp
    refine (icmp_any _ _ _).mono ?_
    rintro e wb ⟨rfl, rfl⟩
    refine ⟨HC.out.below HBA.out, ?_⟩
    refine wpKeep_nil ?_
    have hn := alloc1 wb (.cells #[.int .i64 (cmpM x.2.2 y.2.2), .int .i64 (cmpI x.1 y.1)] 3)
    have hbb : Below wb.heap.size wb (wb.alloc (.cells #[.int .i64 (cmpM x.2.2 y.2.2), .int .i64 (cmpI x.1 y.1)] 3)) := (Below.refl _ _).alloc (Nat.le_refl _) _
    have hor := or_any (fun _ => True) [cmpM x.2.2 y.2.2, cmpI x.1 y.1] (some ⟨wb.heap.size, 0, none⟩) 2 _ (by simp) (row_heap hn rfl trivial)
    have HOR := Lib.hid hor
    have HBB := Lib.hid (HB.out.trans ((HBA.out.trans (hbb.mono HBA.out.size)).mono HB.out.size))
    clear hn hor hbb HC
    go_wp2_with fail
    refine HOR.out.mono ?_
    rintro e wc ⟨rfl, rfl⟩
    go_wp2
    refine NoPanic.normal ?_
    go_wp2
    go_ret
    exact ⟨rfl, HBB.out⟩

set_option maxHeartbeats 1000000 in
set_option maxRecDepth 100000 in
theorem less_any (x y : Msg) (w : World) : Calls Try.prog 39 #[msV x, msV y] w fun e w' => e = .returned (.bool (ltM x y)) ∧ Below w.heap.size w w' := by
  have hc := alloc2 w (.cells (msC x).toArray 40) (.cells (msC y).toArray 40)
  have hb : Below w.heap.size w ((w.alloc (.cells (msC x).toArray 40)).alloc (.cells (msC y).toArray 40)) := ((Below.refl _ _).alloc (Nat.le_refl _) _).alloc (by simp) _
  have HB := Lib.hid hb
  have hlt : Op.bytesLess (bs x.2.2).toList (bs y.2.2).toList = Op.bytesLess x.2.2 y.2.2 := by rw [bs_toList, bs_toList]
  clear hb
  unfold msC at hc HB
  unfold ltM
  by_cases h1 : x.1 = y.1
  · have q1 : (x.1 == y.1) = true := by simpa using h1
    have r1 : decide (x.1 < y.1) = false := by simp; omega
    by_cases h2 : x.2.1 = y.2.1
    · have q2 : (x.2.1 == y.2.1) = true := by simpa using h2
      have r2 : decide (x.2.1 < y.2.1) = false := by simp; omega
      rw [r1, r2, decide_eq_true h1, decide_eq_true h2]
      have H1 := Lib.hid h1
      have H2 := Lib.hid h2
      clear h1 h2 r1 r2
      go_enter Try.func39, Try.ntmps39
      go_wp2
      go_ret
      exact ⟨by simp, HB.out⟩
    · have q2 : (x.2.1 == y.2.1) = false := by simpa using h2
      rw [r1, decide_eq_true h1, decide_eq_false h2]
      have H1 := Lib.hid h1
      clear h1 h2 r1
      go_enter Try.func39, Try.ntmps39
      go_wp2
      go_ret
      exact ⟨by simp, HB.out⟩
  · have q1 : (x.1 == y.1) = false := by simpa using h1
    rw [decide_eq_false h1]
    clear h1
    go_enter Try.func39, Try.ntmps39
    go_wp2
    go_ret
    exact ⟨by simp, HB.out⟩
end Go.Proofs.Ytlgdminpkkhejaa
