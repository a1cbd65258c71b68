/-
  The walks of ref05.before, ascend, Find, Copy.
  Conditions: the arguments read as items, identities.
-/
import Derived.Test.YtmnhgkhidepojaaIdD
namespace Go.Proofs.Ytmnhgkhidepojaa
open Go.RowKit

set_option maxHeartbeats 400000 in
set_option maxRecDepth 100000 in
theorem before_any (x y : It) (w : World) : Calls Try.prog 33 #[itV x, itV y] w fun e w' => e = .returned (.bool (ltKey x.key y.key)) ∧ Below w.heap.size w w' := by
  obtain ⟨m, n, s⟩ := x
  obtain ⟨m', n', s'⟩ := y
  have hb : Below w.heap.size w ((w.alloc (.cells #[sv m, sv n, sv s] 37)).alloc (.cells #[sv m', sv n', sv s'] 37)) := ((Below.refl _ _).alloc (Nat.le_refl _) _).alloc (by simp) _
  have HB := Lib.hid hb
  clear hb
  have e1 := bs_toList m
  have e2 := bs_toList m'
  have e3 := bs_toList n
  have e4 := bs_toList n'
  simp only [ltKey, It.key]
  cases hl : Op.bytesLess m m'
  · by_cases hq : m = m'
    · subst hq
      cases hl2 : Op.bytesLess n n'
      · go_enter Try.func33, Try.ntmps33
        go_wp2
        go_ret
        exact ⟨by simp, HB.out⟩
      · go_enter Try.func33, Try.ntmps33
        go_wp2
        go_ret
        exact ⟨by simp, HB.out⟩
    · have hq' : (m == m') = false := by simpa using hq
      have hq2 : ¬ (bs m).toList = (bs m').toList := by rw [e1, e2]; exact hq
      go_enter Try.func33, Try.ntmps33
      go_wp2
      go_ret
      exact ⟨by simp [hq], HB.out⟩
  · go_enter Try.func33, Try.ntmps33
    go_wp2
    go_ret
    exact ⟨by simp, HB.out⟩

set_option maxHeartbeats 400000 in
set_option maxRecDepth 100000 in
theorem ascend_any (l : List It) (A : Option Addr) (c : Nat) (w : World) (hl : l.length ≤ 1000) (h : Row w (Lt w.heap.size) A (flt itC l)) :
    Calls Try.prog 21 #[.slice A l.length c] w (Says (Asc l) w) := by
  obtain ⟨n, hn⟩ : ∃ n, n = l.length := ⟨_, rfl⟩
  rw [← hn] at hl ⊢
  have HN := Lib.hid hn
  have HR := Lib.hid h
  clear hn h
  go_enter Try.func21, Try.ntmps21
  go_wp2_with fail
  go_loopw [3] (fun i wr => ∃ k : Nat, 1 ≤ k ∧ k ≤ n + 1 ∧ i = .int .i64 k ∧ Below w.heap.size w wr ∧ ∀ j a b, j + 1 < k → l[j]? = some a → l[j + 1]? = some b → ltKey a.key b.key = true) (fun i _ => n + 1 - (intOf i).toNat)
  case atStart => exact ⟨1, by omega, by omega, rfl, Below.refl _ _, fun j a b hj => by omega⟩
  case round =>
    obtain ⟨k, hk1, hk2, rfl, hB, hP⟩ := hrel
    have HP := Lib.hid hP
    clear hP
    have hsz := hB.size
    by_cases hlt : k < n
    · obtain ⟨a, ha⟩ : ∃ a, l[k - 1]? = some a := ⟨_, List.getElem?_eq_getElem (by rw [← HN.out]; omega)⟩
      obtain ⟨b, hb⟩ : ∃ b, l[k]? = some b := ⟨_, List.getElem?_eq_getElem (by rw [← HN.out]; exact hlt)⟩
      have hr := HR.out.keep (kept_below hB)
      obtain ⟨ad, rfl, hS, a0, a1, a2⟩ := it_at hr ha
      obtain ⟨ad', e', _, b0, b1, b2⟩ := it_at hr hb
      obtain rfl := Option.some.inj e'
      have HB := Lib.hid hB
      have HA := Lib.hid ha
      have HBB := Lib.hid hb
      have hwr : IntKind.i64.wrap ((k - 1 : Nat) : Int) = ((k - 1 : Nat) : Int) := by rw [IntKind.wrap_i64]; omega
      have hsub : ((k : Int) - 1) = ((k - 1 : Nat) : Int) := by omega
      obtain ⟨k0, hk0⟩ : ∃ k0, k0 = k - 1 := ⟨_, rfl⟩
      rw [← hk0] at a0 a1 a2 hsub hwr HA
      have HK0 := Lib.hid hk0
      have hkn : k0 < n := by omega
      have hik : (0 : Int) ≤ (k0 : Int) ∧ (k0 : Int) < (n : Int) := ⟨by omega, by omega⟩
      clear hB ha hb hr hk0
      go_wp2_with fail
      refine wp_region_held' (fun w' => w'.cell? (ad.add (k0 * 3)) = some (sv a.md) ∧ w'.cell? ⟨(ad.add (k0 * 3)).block, (ad.add (k0 * 3)).off + 1, none⟩ = some (sv a.nm) ∧ w'.cell? ⟨(ad.add (k0 * 3)).block, (ad.add (k0 * 3)).off + 2, none⟩ = some (sv a.sh) ∧
        w'.cell? (ad.add (k * 3)) = some (sv b.md) ∧ w'.cell? ⟨(ad.add (k * 3)).block, (ad.add (k * 3)).off + 1, none⟩ = some (sv b.nm) ∧ w'.cell? ⟨(ad.add (k * 3)).block, (ad.add (k * 3)).off + 2, none⟩ = some (sv b.sh)) [] [0, 1, 2, 3, 4, 5, 6, 7, 8] [9] [10] (by kernel_rfl) (by kernel_rfl) ?s0 ?h0
      case s0 => exact ⟨a0, a1, a2, b0, b1, b2⟩
      case h0 =>
        simp only [opsAt, List.filterMap_cons, List.filterMap_nil, List.getElem?_toArray, List.getElem?_cons_succ, List.getElem?_cons_zero]
        refine wpFloat_nil ?_
        refine wpLoad_step ?va0 rfl (fun w' hS => ?ya0) ?ka0
        case ya0 =>
          obtain ⟨g0, g1, g2, g3, g4, g5⟩ := hS
          go_simp
          try rfl
        case ka0 =>
        go_simp
        refine wpLoad_step ?va1 rfl (fun w' hS => ?ya1) ?ka1
        case ya1 =>
          obtain ⟨g0, g1, g2, g3, g4, g5⟩ := hS
          go_simp
          try rfl
        case ka1 =>
        go_simp
        refine wpLoad_step ?va2 rfl (fun w' hS => ?ya2) ?ka2
        case ya2 =>
          obtain ⟨g0, g1, g2, g3, g4, g5⟩ := hS
          go_simp
          try rfl
        case ka2 =>
        go_simp
        refine wpLoad_step ?va3 rfl (fun w' hS => ?ya3) ?ka3
        case ya3 =>
          obtain ⟨g0, g1, g2, g3, g4, g5⟩ := hS
          go_simp
          try rfl
        case ka3 =>
        go_simp
        refine wpLoad_step ?va4 rfl (fun w' hS => ?ya4) ?ka4
        case ya4 =>
          obtain ⟨g0, g1, g2, g3, g4, g5⟩ := hS
          go_simp
          try rfl
        case ka4 =>
        go_simp
        refine wpLoad_step ?va5 rfl (fun w' hS => ?ya5) ?ka5
        case ya5 =>
          obtain ⟨g0, g1, g2, g3, g4, g5⟩ := hS
          go_simp
          try rfl
        case ka5 =>
        go_simp
        refine wpLoad_step ?va6 rfl (fun w' hS => ?ya6) ?ka6
        case ya6 =>
          obtain ⟨g0, g1, g2, g3, g4, g5⟩ := hS
          go_simp
          try rfl
        case ka6 =>
        go_simp
        refine wpLoad_step ?va7 rfl (fun w' hS => ?ya7) ?ka7
        case ya7 =>
          obtain ⟨g0, g1, g2, g3, g4, g5⟩ := hS
          go_simp
          try rfl
        case ka7 =>
        go_simp
        refine wpLoad_step ?va8 rfl (fun w' hS => ?ya8) ?ka8
        case ya8 =>
          obtain ⟨g0, g1, g2, g3, g4, g5⟩ := hS
          go_simp
          try rfl
        case ka8 =>
        go_simp
        refine wpLoad_nil ?_
        refine wpKeep_step rfl ?_
        go_simp
        refine (before_any a b wr.drew).mono ?_
        rintro e wa ⟨rfl, hba⟩
        have hk := kept_below hba
        have hbw : Below w.heap.size w wa := HB.out.trans (Below.mono ((Below.refl _ wr).drew.trans hba) hsz)
        have HBA := Lib.hid hbw
        refine ⟨⟨(hk _ (block_lt_of_cell a0)).trans a0, (hk _ (block_lt_of_cell a1)).trans a1, (hk _ (block_lt_of_cell a2)).trans a2, (hk _ (block_lt_of_cell b0)).trans b0, (hk _ (block_lt_of_cell b1)).trans b1, (hk _ (block_lt_of_cell b2)).trans b2⟩, ?_⟩
        clear a0 a1 a2 b0 b1 b2 hk hba hbw
        by_cases hlt2 : ltKey a.key b.key = true
        · rw [hlt2]
          refine wpKeep_nil ?_
          go_wp2
          refine NoPanic.normal ?_
          go_wp2
          go_roundw
          case rel =>
            refine ⟨k + 1, by omega, by omega, by go_num, HBA.out, fun j x y hj hx hy => ?_⟩
            by_cases hjk : j + 1 < k
            · exact HP.out j x y hjk hx hy
            · have hjk' : j = k0 := by have := HK0.out; omega
              subst hjk'
              have e1 := HA.out
              have e2 := HBB.out
              rw [show k = j + 1 by have := HK0.out; omega] at e2
              rw [e1] at hx
              rw [e2] at hy
              cases hx
              cases hy
              exact hlt2
          case measure => simp [intOf]; omega
        · have hlt3 : ltKey a.key b.key = false := by simpa using hlt2
          rw [hlt3]
          refine wpKeep_nil ?_
          go_wp2
          refine NoPanic.normal ?_
          go_wp2
          go_ret
          refine ⟨_, rfl, ⟨(fun h => by cases h), fun h => ?_⟩, HBA.out⟩
          have e2 := HBB.out
          rw [show k = k0 + 1 by have := HK0.out; omega] at e2
          exact absurd (h _ _ _ HA.out e2) hlt2
    · have HB := Lib.hid hB
      clear hB
      go_wp2
      go_ret
      refine ⟨_, rfl, ⟨fun _ => ?_, fun _ => rfl⟩, HB.out⟩
      intro j x y hx hy
      have hjl := (List.getElem?_eq_some_iff.1 hy).1
      exact HP.out j x y (by have := HN.out; omega) hx hy

set_option maxHeartbeats 800000 in
set_option maxRecDepth 100000 in
theorem rfind_any (n : Int) (xs : List Idn) (A : Option Addr) (c : Nat) (a b : List UInt8) (w : World) (hl : xs.length ≤ 1000) (h : Row w (Lt w.heap.size) A (flt idC xs)) :
    Calls Try.prog 23 #[.agg #[.int .i64 n, .slice A xs.length c], sv a, sv b] w (FindRes xs (a, b) w) := by
  obtain ⟨m, hm⟩ : ∃ m, m = xs.length := ⟨_, rfl⟩
  rw [← hm] at hl ⊢
  have HM := Lib.hid hm
  have HR := Lib.hid h
  clear hm h
  have hx0 := alloc1 w (.cells #[.int .i64 n, .slice A m c] 29)
  have hbx : Below w.heap.size w (w.alloc (.cells #[.int .i64 n, .slice A m c] 29)) := (Below.refl _ _).alloc (Nat.le_refl _) _
  have HX0 := Lib.hid hx0
  have HBX := Lib.hid hbx
  clear hx0 hbx
  go_enter Try.func23, Try.ntmps23
  go_wp2_with fail
  obtain ⟨w0, hw0⟩ : ∃ w0, w0 = (w.alloc (.cells #[.int .i64 n, .slice A m c] 29)) := ⟨_, rfl⟩
  rw [← hw0] at HX0 HBX ⊢
  clear hw0
  go_loopw [8] (fun i wr => ∃ k : Nat, k ≤ m ∧ i = .int .i64 k ∧ Below w.heap.size w wr ∧ wr.heap[w.heap.size]? = some (.cells #[.int .i64 n, .slice A m c] 29 (0, 0)) ∧ ∀ z ∈ xs.take k, z.key ≠ (a, b)) (fun i _ => m - (intOf i).toNat)
  case atStart => exact ⟨0, by omega, rfl, HBX.out, HX0.out, fun z hz => by simp at hz⟩
  case round =>
    clear HX0 HBX
    obtain ⟨k, hkm, rfl, hbx, hx0, hP⟩ := hrel
    have HX0 := Lib.hid hx0
    have HBX := Lib.hid hbx
    have hl0 := lt_of_heap hx0
    clear hbx hx0
    have x1 : wr.cell? ⟨w.heap.size, 1, none⟩ = some (.slice A m c) := (Lib.cell_of_heap HX0.out _).trans rfl
    by_cases hlt : k < m
    · obtain ⟨y, hy⟩ : ∃ y, xs[k]? = some y := ⟨_, List.getElem?_eq_getElem (by rw [← HM.out]; exact hlt)⟩
      obtain ⟨ad, rfl, hS, a0, a1, a2, a3⟩ := id_at (HR.out.keep (kept_below HBX.out)) hy
      have hskip : y.key ≠ (a, b) → ∀ z ∈ xs.take (k + 1), z.key ≠ (a, b) := fun hne z hz => by
        rw [List.take_add_one, hy] at hz
        rcases List.mem_append.1 hz with hz | hz
        · exact hP z hz
        · simp at hz
          subst hz
          exact hne
      have HSK := Lib.hid hskip
      have HY := Lib.hid hy
      have HP := Lib.hid hP
      clear hskip hy hP
      by_cases h1 : y.it.md = a
      · have h1' : (bs y.it.md).toList = (bs a).toList := by rw [h1]
        by_cases h2 : y.it.nm = b
        · have h2' : (bs y.it.nm).toList = (bs b).toList := by rw [h2]
          have HF := Lib.hid (fnd_take HP.out HY.out (Prod.ext h1 h2))
          clear h1 h2
          go_wp2
          go_ret2
          refine ⟨?_, HBX.out⟩
          rw [HF.out]
          rfl
        · have h2' : ¬ (bs y.it.nm).toList = (bs b).toList := fun e => h2 (by rwa [bs_toList, bs_toList] at e)
          have h2'' : ((bs y.it.nm).toList == (bs b).toList) = false := by simpa using h2'
          have HS := Lib.hid (HSK.out fun e => h2 (congrArg Prod.snd e))
          clear h1 h2
          go_wp2
          go_roundw
          case rel => exact ⟨k + 1, by omega, by go_num, HBX.out, HX0.out, HS.out⟩
          case measure => simp [intOf]; omega
      · have h1' : ¬ (bs y.it.md).toList = (bs a).toList := fun e => h1 (by rwa [bs_toList, bs_toList] at e)
        have HS := Lib.hid (HSK.out fun e => h1 (congrArg Prod.fst e))
        clear h1
        go_wp2
        go_roundw
        case rel => exact ⟨k + 1, by omega, by go_num, HBX.out, HX0.out, HS.out⟩
        case measure => simp [intOf]; omega
    · have HP := Lib.hid hP
      clear hP
      go_wp2
      go_ret2
      have hx : xs.take k = xs := List.take_of_length_le (by rw [← HM.out]; omega)
      have hp := HP.out
      rw [hx] at hp
      have : fnd xs (a, b) = none := by
        unfold fnd
        rw [List.find?_eq_none.2 fun z hz => by simpa using hp z hz]
        rfl
      refine ⟨?_, HBX.out⟩
      rw [this]
      rfl
end Go.Proofs.Ytmnhgkhidepojaa
