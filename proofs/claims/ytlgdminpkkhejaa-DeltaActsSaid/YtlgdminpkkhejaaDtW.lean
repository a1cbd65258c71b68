/-
  The walk of delta.without.
  Conditions: the messages lie in memory; there are at most 10^6 in each list.
-/
import Derived.Test.YtlgdminpkkhejaaDtO
import Derived.Test.YtlgdminpkkhejaaBent
import Derived.Test.YtlgdminpkkhejaaBmix
namespace Go.Proofs.Ytlgdminpkkhejaa
open Go.RowKit

theorem hKMs (w : World) (k : Msg) : KMs w (msV k) := ⟨k, rfl⟩
theorem zeroInt (w : World) : (zeroValue 3).run Try.prog w = .ok (.int .i64 0) w := by
  have h := Try.zeroValue3
  simp [go_sem, h]
/-- What is left, and how many were not there. -/
def WoRes (l o : List Msg) (w : World) (e : Ending) (w' : World) : Prop :=
  ∃ v, e = .returned (.tuple #[v, .int .i64 ((o.length : Int) + ((wgo l fun m => o.count m).length : Int) - (l.length : Int))]) ∧ w'.ownsRow w.heap.size 40 3 v (wgo l fun m => o.count m).length (flt msC (wgo l fun m => o.count m)) ∧ Below w.heap.size w w'
theorem map_ne {w : World} {base : Nat} {e : TypeId} {size n b : Nat} {v : Value} {xs : List Value} {N : Msg → Nat} (h : w.ownsRow base e size v n xs) (hm : MapN msV w b N) : ∀ g, v.ownBlock = some g → g ≠ b := by
  intro g hg e'
  subst e'
  obtain ⟨G, ⟨L, ⟨es, clock, hb, _⟩, _⟩, _⟩ := hm
  rcases h.2 with ⟨rfl, _⟩ | ⟨g', cap, cur, rfl, _, hgg, _⟩
  · cases hg
  · obtain rfl : g' = g := Option.some.inj hg
    rw [hgg] at hb
    cases hb
theorem AtCells.kp {M : Nat → Prop} {w w' : World} (hk : Kp M w w') : ∀ {cs : List (Addr × Value)}, AtCells cs w → (∀ x ∈ cs, ¬ M x.1.block) → AtCells cs w'
  | [], _, _ => trivial
  | _ :: _, h, hM => ⟨(World.cell?_of_block (hk.block _ (block_lt_of_cell h.1) (hM _ (by simp)))).trans h.1, AtCells.kp hk h.2 fun x hx => hM x (by simp [hx])⟩

set_option maxHeartbeats 1600000 in
set_option maxRecDepth 100000 in
theorem without_any (S S' : Nat → Prop) (l o : List Msg) (A B : Option Addr) (c d : Nat) (w : World) (hS : ∀ y, S y → Lt w.heap.size y) (hS' : ∀ y, S' y → Lt w.heap.size y) (hl : l.length ≤ 1000000) (hol : o.length ≤ 1000000) (h : Row w S A (flt msC l)) (h' : Row w S' B (flt msC o)) :
    Calls Try.prog 28 #[.slice A l.length c, .slice B o.length d] w (WoRes l o w) := by
  obtain ⟨n, hn⟩ : ∃ n, n = l.length := ⟨_, rfl⟩
  obtain ⟨p, hp⟩ : ∃ p, p = o.length := ⟨_, rfl⟩
  have hbx : Below w.heap.size w (w.alloc (.map #[] 0)) := (Below.refl _ _).alloc (Nat.le_refl _) _
  have hm1 : MapN msV (w.alloc (.map #[] 0)) w.heap.size fun _ => 0 := MapN.new w
  have hs0 : (w.alloc (.map #[] 0)).heap.size = w.heap.size + 1 := by simp
  rw [← hn] at hl ⊢
  rw [← hp] at hol ⊢
  have HN := Lib.hid hn
  have HP := Lib.hid hp
  have HR := Lib.hid h
  have HR' := Lib.hid h'
  have HS := Lib.hid hS
  have HS' := Lib.hid hS'
  have HBX := Lib.hid hbx
  have HM1 := Lib.hid hm1
  have HS0 := Lib.hid hs0
  obtain ⟨i0, hi, hz0, hz1, hz2⟩ := info_parts infoMs
  clear hn hp h h' hS hS' hbx hm1 hs0
  have hmm := @run_makeMap Try.prog
  go_enter Try.func28, Try.ntmps28
  go_wp2_with fail
  clear hmm
  obtain ⟨w0, hw0⟩ : ∃ w0, w0 = w.alloc (.map #[] 0) := ⟨_, rfl⟩
  rw [← hw0] at HBX HM1 HS0 ⊢
  clear hw0
  go_loopw [16] (fun i wr => ∃ k : Nat, k ≤ p ∧ i = .int .i64 k ∧ Kp (fun y => y = w.heap.size) w0 wr ∧ MapN msV wr w.heap.size (fun m => (o.take k).count m)) (fun i _ => p - (intOf i).toNat)
  case atStart => exact ⟨0, by omega, rfl, Kp.refl _ _, HM1.out.ext fun m => by simp⟩
  case round =>
    obtain ⟨k, hkp, rfl, hK, hM⟩ := hrel
    have hsz := hK.size
    have hs0 := HS0.out
    by_cases hlt : k < p
    · obtain ⟨x, hx⟩ : ∃ x, o[k]? = some x := ⟨_, List.getElem?_eq_getElem (by rw [← HP.out]; exact hlt)⟩
      have hrow := HR'.out.keep (((kept_below HBX.out).trans (hK.kept fun b hb => ⟨by unfold Lt at hb; omega, by unfold Lt at hb; omega⟩)).sub HS'.out)
      obtain ⟨ad, rfl, _, a0, a1, a2⟩ := ms_at hrow hx
      have hik : (0 : Int) ≤ (k : Int) ∧ (k : Int) < (p : Int) := ⟨by omega, by omega⟩
      have hcn : ∀ m, (o.take (k + 1)).count m = if m = x then (o.take k).count x + 1 else (o.take k).count m := fun m => by
        rw [take_snoc hx, List.count_append, List.count_cons, List.count_nil]
        by_cases e : m = x
        · subst e; simp
        · have : ¬ x = m := fun h => e h.symm
          simp [e, this]
      obtain ⟨N, hN⟩ : ∃ N : Msg → Nat, N = fun m => (o.take k).count m := ⟨_, rfl⟩
      obtain ⟨q, hq⟩ : ∃ q, q = N x := ⟨_, rfl⟩
      have hq6 : q ≤ 1000000 := by
        rw [hq, hN]
        have := List.count_le_length (a := x) (l := o.take k)
        rw [List.length_take] at this
        show (o.take k).count x ≤ _
        have := HP.out
        omega
      rw [← hN] at hM
      obtain ⟨z, hz⟩ : ∃ z, z = q + 1 := ⟨_, rfl⟩
      have hN1 : ∀ m, (fun k' => if k' = x then z else N k') m = (o.take (k + 1)).count m := fun m => by
        rw [hcn m, hz, hq, hN]
      obtain ⟨w1, hw1⟩ : ∃ w1, w1 = wr.alloc (.cells #[.int .i64 x.1, .int .i64 x.2.1, sv x.2.2] 40) := ⟨_, rfl⟩
      have hb1 : Below wr.heap.size wr w1 := by rw [hw1]; exact (Below.refl _ _).alloc (Nat.le_refl _) _
      have ha1 : w1.heap[wr.heap.size]? = some (.cells #[.int .i64 x.1, .int .i64 x.2.1, sv x.2.2] 40 (0, 0)) := by rw [hw1]; exact alloc1 _ _
      obtain ⟨c0, c1, c2⟩ := ms_blk ha1 rfl
      have HC1 : Hid (AtCells [(⟨wr.heap.size, 0, none⟩, .int .i64 x.1), (⟨wr.heap.size, 0 + 1, none⟩, .int .i64 x.2.1), (⟨wr.heap.size, 0 + 2, none⟩, sv x.2.2)] w1) := Lib.hid ⟨c0, c1, c2, trivial⟩
      have HM1 := Lib.hid (hM.same (hb1.block _ hM.lt))
      have HK1 := Lib.hid (hK.trans (M1 := fun y => y = w.heap.size) (Kp.ofBelow hb1) fun _ _ e => e)
      have HW1 := Lib.hid hw1
      have HQ := Lib.hid hq
      have HN1 := Lib.hid hN1
      have HWQ : Hid (IntKind.i64.wrap ((q : Int) + 1) = (z : Int)) := Lib.hid (by rw [IntKind.wrap_i64]; omega)
      clear hK hM hrow hx hcn hN hq hN1 hz hw1 hb1 ha1 c0 c1 c2
      go_wp2_with fail
      rw [← HW1.out]
      clear HW1 a0 a1 a2
      refine wp_region_mix (fun u => MapN msV u w.heap.size N ∧ AtCells [(⟨wr.heap.size, 0, none⟩, .int .i64 x.1), (⟨wr.heap.size, 0 + 1, none⟩, .int .i64 x.2.1), (⟨wr.heap.size, 0 + 2, none⟩, sv x.2.2)] u ∧ Kp (fun y => y = w.heap.size) w1 u) [(true, 0), (true, 1), (true, 2), (true, 3), (false, 4), (true, 5)] [6] (by kernel_rfl) (by kernel_rfl) ?sA ?hA
      case sA => exact ⟨HM1.out.same rfl, HC1.out.below (Below.refl _ w1).drew, (Kp.refl _ _).drew⟩
      case hA =>
      simp only [mixAt, List.filterMap_cons, List.filterMap_nil, List.getElem?_toArray, List.getElem?_cons_succ, List.getElem?_cons_zero, Option.map_some]
      refine wpMix_load ?vAa0 rfl (fun w' hS => ?yAa0) ?kAa0
      case yAa0 =>
        obtain ⟨hM, ⟨g0, g1, g2, _⟩, _⟩ := hS
        go_simp
        try rfl
      case kAa0 =>
      go_simp
      refine wpMix_load ?vAa1 rfl (fun w' hS => ?yAa1) ?kAa1
      case yAa1 =>
        obtain ⟨hM, ⟨g0, g1, g2, _⟩, _⟩ := hS
        go_simp
        try rfl
      case kAa1 =>
      go_simp
      refine wpMix_load (.int .i64 (q : Int)) rfl (fun w' hS => ?yA2) ?kA2
      case yA2 =>
        obtain ⟨hM, _, _⟩ := hS
        have hlk := hM.look (fun _ _ => msV_inj) Try.underlying76 keyMs hKMs zeroInt x
        rw [← HQ.out] at hlk
        go_simp
      case kA2 =>
      go_simp
      refine wpMix_load (.int .i64 ((z : Nat) : Int)) rfl (fun w' hS => ?yA3) ?kA3
      case yA3 =>
        go_simp
        try rw [HWQ.out]
      case kA3 =>
      go_simp
      refine wpMix_keep rfl ?_
      obtain ⟨w2, v2, s2, hrun, hM2, hE2, hk2⟩ := (HM1.out.same (w' := w1.drew) rfl).entry (fun _ _ => msV_inj) Try.underlying76 keyMs hKMs zeroInt x
      have HM2 := Lib.hid hM2
      have HE2 := Lib.hid hE2
      have HK2 := Lib.hid ((Kp.refl (fun y => y = w.heap.size) w1).drew.trans hk2 fun _ _ e => e)
      clear hM2 hE2 hk2
      go_wp2_with fail
      refine ⟨⟨HM2.out, HC1.out.kp HK2.out (by
        intro y hy
        simp only [List.mem_cons, List.not_mem_nil, or_false] at hy
        rcases hy with rfl | rfl | rfl <;> (simp only; omega)), HK2.out⟩, ?_⟩
      clear hrun
      refine wpMix_load ?vAb5 rfl (fun w' hS => ?yAb5) ?kAb5
      case yAb5 =>
        obtain _ := hS
        go_simp
        try rfl
      case kAb5 =>
      go_simp
      refine wpMix_nil ?_
      simp only [opsAt, List.filterMap_cons, List.filterMap_nil, List.getElem?_toArray, List.getElem?_cons_succ, List.getElem?_cons_zero]
      obtain ⟨w3, hrun, hM3, hk3⟩ := HM2.out.store (T := 76) (P := Try.prog) HE2.out (fun _ _ => msV_inj) (z)
      have HM3 := Lib.hid hM3
      have HK3 := Lib.hid (HK2.out.trans hk3 fun _ _ e => e)
      clear hM3 hk3 HM2 HE2 HK2
      go_wp2
      refine NoPanic.normal ?_
      go_wp2_with fail
      clear hrun
      go_roundw
      case rel => exact ⟨k + 1, by omega, by go_num, HK1.out.trans HK3.out fun _ _ e => e, HM3.out.ext HN1.out⟩
      case measure => simp [intOf]; omega
    · have hM0 : MapN msV wr w.heap.size fun m => o.count m := hM.ext fun m => by rw [List.take_of_length_le (by rw [← HP.out]; omega)]
      have hBW := kp_below HBX.out hK fun y e => by omega
      obtain ⟨w2, hw2⟩ : ∃ w2, w2 = wr := ⟨_, rfl⟩
      rw [← hw2] at hM0 hBW ⊢
      have HM0 := Lib.hid hM0
      have HBW := Lib.hid hBW
      clear hM0 hBW hM hK hw2 hsz hs0
      go_wp2_with fail
      go_loopw [9, 10, 31] (fun mv ov i wr => ∃ (k : Nat) (N : Msg → Nat) (out : List Msg) (z : Int), k ≤ n ∧ i = .int .i64 k ∧ mv = .int .i64 z ∧ z = (p : Int) + (out.length : Int) - (k : Int) ∧ out.length ≤ k ∧ Below w.heap.size w wr ∧ MapN msV wr w.heap.size N ∧ (∀ m, N m ≤ p) ∧ wr.ownsRow w.heap.size 40 3 ov out.length (flt msC out) ∧ (wgo l fun m => o.count m) = out ++ wgo (l.drop k) N) (fun _ _ i _ => n - (intOf i).toNat)
      case atStart => exact ⟨0, _, [], p, by omega, rfl, rfl, by simp, by simp, HBW.out, HM0.out, fun m => by rw [HP.out]; exact List.count_le_length, World.ownsRow_nil _ _ _ _, rfl⟩
      case round =>
        obtain ⟨k, N, out, z, hkn, rfl, rfl, hz, hok, hB, hM, hN, hown, hwg⟩ := hrel
        have hwl := hM.lt
        by_cases hlk : k < n
        · obtain ⟨x, hx⟩ : ∃ x, l[k]? = some x := ⟨_, List.getElem?_eq_getElem (by rw [← HN.out]; exact hlk)⟩
          have hrow := HR.out.keep ((kept_below hB).sub HS.out)
          obtain ⟨ad, rfl, _, a0, a1, a2⟩ := ms_at hrow hx
          have hik : (0 : Int) ≤ (k : Int) ∧ (k : Int) < (n : Int) := ⟨by omega, by omega⟩
          have hdr : l.drop k = x :: l.drop (k + 1) := by
            obtain ⟨h1, h2⟩ := List.getElem?_eq_some_iff.1 hx
            rw [List.drop_eq_getElem_cons h1, h2]
          obtain ⟨q, hq⟩ : ∃ q, q = N x := ⟨_, rfl⟩
          have hq6 : q ≤ 1000000 := by have := hN x; omega
          have hb1 : Below wr.heap.size wr (wr.alloc (.cells #[.int .i64 x.1, .int .i64 x.2.1, sv x.2.2] 40)) := (Below.refl _ _).alloc (Nat.le_refl _) _
          have hlk : (Instr.lookup 76 (.map (some w.heap.size)) (.agg #[.int .i64 x.1, .int .i64 x.2.1, sv x.2.2]) false).run Try.prog (wr.alloc (.cells #[.int .i64 x.1, .int .i64 x.2.1, sv x.2.2] 40)) = .ok (.int .i64 (q : Int)) (wr.alloc (.cells #[.int .i64 x.1, .int .i64 x.2.1, sv x.2.2] 40)) := by
            rw [hq]
            exact (hM.same (hb1.block _ hM.lt)).look (fun _ _ => msV_inj) Try.underlying76 keyMs hKMs zeroInt x
          obtain ⟨w1, hw1⟩ : ∃ w1, w1 = wr.alloc (.cells #[.int .i64 x.1, .int .i64 x.2.1, sv x.2.2] 40) := ⟨_, rfl⟩
          rw [← hw1] at hb1
          have ha1 : w1.heap[wr.heap.size]? = some (.cells #[.int .i64 x.1, .int .i64 x.2.1, sv x.2.2] 40 (0, 0)) := by rw [hw1]; exact alloc1 _ _
          obtain ⟨c0, c1, c2⟩ := ms_blk ha1 rfl
          have HC1 : Hid (AtCells [(⟨wr.heap.size, 0, none⟩, .int .i64 x.1), (⟨wr.heap.size, 0 + 1, none⟩, .int .i64 x.2.1), (⟨wr.heap.size, 0 + 2, none⟩, sv x.2.2)] w1) := Lib.hid ⟨c0, c1, c2, trivial⟩
          have HM1 := Lib.hid (hM.same (hb1.block _ hM.lt))
          have HB1 := Lib.hid (hB.trans (hb1.mono hB.size))
          have HOW := Lib.hid ((Kp.ofBelow (M := fun _ => False) hb1).own hown fun _ _ e => e)
          have HW1 := Lib.hid hw1
          have HQ := Lib.hid hq
          have HNL := Lib.hid hN
          have HZ := Lib.hid hz
          have HWG := Lib.hid hwg
          have HDR := Lib.hid hdr
          have hzb : -2000000 ≤ z ∧ z ≤ 3000000 := ⟨by omega, by omega⟩
          have hsz1 : w1.heap.size = wr.heap.size + 1 := by rw [hw1]; simp
          have HSZ1 := Lib.hid hsz1
          clear hrow hx hdr hq hb1 hB hM hN hown hwg hw1 ha1 c0 c1 c2 hz hsz1
          by_cases hq0 : 0 < q
          · have hqd : decide ((0 : Int) < (q : Int)) = true := by simp; omega
            obtain ⟨z2, hz2⟩ : ∃ z2, z2 = q - 1 := ⟨_, rfl⟩
            have HWQ : Hid (IntKind.i64.wrap ((q : Int) - 1) = (z2 : Int)) := Lib.hid (by rw [IntKind.wrap_i64]; omega)
            have HZ2 := Lib.hid hz2
            clear hz2
            go_wp2_with fail
            rw [← HW1.out]
            clear HW1 a0 a1 a2 hlk
            refine wp_region_mix (fun u => MapN msV u w.heap.size N ∧ AtCells [(⟨wr.heap.size, 0, none⟩, .int .i64 x.1), (⟨wr.heap.size, 0 + 1, none⟩, .int .i64 x.2.1), (⟨wr.heap.size, 0 + 2, none⟩, sv x.2.2)] u ∧ Kp (fun y => y = w.heap.size) w1 u) [(true, 0), (true, 1), (true, 2), (true, 3), (false, 4), (true, 5)] [6] (by kernel_rfl) (by kernel_rfl) ?sB ?hB
            case sB => exact ⟨HM1.out.same rfl, HC1.out.below (Below.refl _ w1).drew, (Kp.refl _ _).drew⟩
            case hB =>
            simp only [mixAt, List.filterMap_cons, List.filterMap_nil, List.getElem?_toArray, List.getElem?_cons_succ, List.getElem?_cons_zero, Option.map_some]
            refine wpMix_load ?vBa0 rfl (fun w' hS => ?yBa0) ?kBa0
            case yBa0 =>
              obtain ⟨hM, ⟨g0, g1, g2, _⟩, _⟩ := hS
              go_simp
              try rfl
            case kBa0 =>
            go_simp
            refine wpMix_load ?vBa1 rfl (fun w' hS => ?yBa1) ?kBa1
            case yBa1 =>
              obtain ⟨hM, ⟨g0, g1, g2, _⟩, _⟩ := hS
              go_simp
              try rfl
            case kBa1 =>
            go_simp
            refine wpMix_load (.int .i64 (q : Int)) rfl (fun w' hS => ?yB2) ?kB2
            case yB2 =>
              obtain ⟨hM, _, _⟩ := hS
              have hlk := hM.look (fun _ _ => msV_inj) Try.underlying76 keyMs hKMs zeroInt x
              rw [← HQ.out] at hlk
              go_simp
            case kB2 =>
            go_simp
            refine wpMix_load (.int .i64 ((z2 : Nat) : Int)) rfl (fun w' hS => ?yB3) ?kB3
            case yB3 =>
              go_simp
              try rw [HWQ.out]
            case kB3 =>
            go_simp
            refine wpMix_keep rfl ?_
            obtain ⟨w2, v2, s2, hrun, hM2, hE2, hk2⟩ := (HM1.out.same (w' := w1.drew) rfl).entry (fun _ _ => msV_inj) Try.underlying76 keyMs hKMs zeroInt x
            have HM2 := Lib.hid hM2
            have HE2 := Lib.hid hE2
            have HK2 := Lib.hid ((Kp.refl (fun y => y = w.heap.size) w1).drew.trans hk2 fun _ _ e => e)
            clear hM2 hE2 hk2
            go_wp2_with fail
            refine ⟨⟨HM2.out, HC1.out.kp HK2.out (by
              intro y hy
              simp only [List.mem_cons, List.not_mem_nil, or_false] at hy
              rcases hy with rfl | rfl | rfl <;> (simp only; omega)), HK2.out⟩, ?_⟩
            clear hrun
            refine wpMix_load ?vBb5 rfl (fun w' hS => ?yBb5) ?kBb5
            case yBb5 =>
              obtain _ := hS
              go_simp
              try rfl
            case kBb5 =>
            go_simp
            refine wpMix_nil ?_
            simp only [opsAt, List.filterMap_cons, List.filterMap_nil, List.getElem?_toArray, List.getElem?_cons_succ, List.getElem?_cons_zero]
            obtain ⟨w3, hrun, hM3, hk3⟩ := HM2.out.store (T := 76) (P := Try.prog) HE2.out (fun _ _ => msV_inj) (z2)
            have HM3 := Lib.hid hM3
            have HK3 := Lib.hid (HK2.out.trans hk3 fun _ _ e => e)
            clear hM3 hk3 HM2 HE2 HK2
            go_wp2
            refine NoPanic.normal ?_
            go_wp2_with fail
            clear hrun
            go_roundw
            case rel =>
              refine ⟨k + 1, _, out, z - 1, by omega, by go_num, by go_num, by have := HZ.out; omega, by omega, kp_below HB1.out HK3.out fun y e => by omega, HM3.out, fun m => ?_, HK3.out.own HOW.out (map_ne HOW.out HM1.out), ?_⟩
              · show (if m = x then z2 else N m) ≤ p
                have h1 := HNL.out m
                have h2 := HNL.out x
                have h3 := HQ.out
                have h4 := HZ2.out
                by_cases e : m = x
                · rw [if_pos e]; omega
                · rw [if_neg e]; exact h1
              · rw [HWG.out, HDR.out]
                show out ++ (if 0 < N x then wgo (l.drop (k + 1)) (fun y => if y = x then N y - 1 else N y) else x :: wgo (l.drop (k + 1)) N) = _
                rw [if_pos (by rw [← HQ.out]; exact hq0)]
                congr 2
                funext y
                by_cases e : y = x
                · rw [if_pos e, if_pos e, HZ2.out, HQ.out, e]
                · rw [if_neg e, if_neg e]
            case measure => simp [intOf]; omega
          · have hqd : decide ((0 : Int) < (q : Int)) = false := by simp; omega
            have hown1 := HOW.out
            rw [HW1.out] at hown1
            have hown1 := hown1.alloc (.cells #[.int .i64 x.1, .int .i64 x.2.1, sv x.2.2] 40)
            have HO1 := Lib.hid hown1
            have HNEW := Lib.hid (World.news_of_block (cs := #[.int .i64 x.1, .int .i64 x.2.1, sv x.2.2]) (alloc2 wr (.cells #[.int .i64 x.1, .int .i64 x.2.1, sv x.2.2] 40) (.cells #[.int .i64 x.1, .int .i64 x.2.1, sv x.2.2] 40)).2)
            have hw0 := HB1.out.size
            have hs1 := HSZ1.out
            obtain ⟨y, hy⟩ : ∃ y, y = out.length := ⟨_, rfl⟩
            rw [← hy] at hok HO1
            have HY := Lib.hid hy
            clear hown1 hy
            go_wp2_with (at_builtin; refine wpList_append_lies _ rfl _ _ 22 rfl w.heap.size 40 i0 _ 3 32 Try.underlying22 hi hz0 hz1 hz2 rfl (by omega) u10 y (flt msC out) rfl HO1.out ⟨wr.heap.size + 1, 0, none⟩ 1 1 [.int .i64 x.1, .int .i64 x.2.1, sv x.2.2] rfl rfl HNEW.out ?d2 (by omega) ?d3 ?d4 ?d5 _ rfl ?_)
            case d2 => exact ⟨rfl, rfl, rfl⟩
            case d3 => unfold maxLen; omega
            case d4 => omega
            case d5 => omega
            intro vg vcap w5 hown5 hgr hat _
            have hltv := HO1.out.lt
            have hne := map_ne HOW.out HM1.out
            have hk15 : Kp (fun y => u10.ownBlock = some y) w1 w5 := by
              rw [HW1.out]
              exact ((Kp.refl _ _).alloc (.cells #[.int .i64 x.1, .int .i64 x.2.1, sv x.2.2] 40)).grown hgr fun r hr _ => hr
            have HM5 := Lib.hid (HM1.out.kp hk15 fun e => hne _ e rfl)
            have HB5 := Lib.hid (kp_below HB1.out hk15 fun y e => (hltv y e).1)
            have ho5 : w5.ownsRow w.heap.size 40 3 (.slice (some ⟨vg, 0, none⟩) (y + 1) vcap) (out ++ [x]).length (flt msC (out ++ [x])) := by
              rw [List.length_append, flt_append, flt_one, ← HY.out]
              exact hown5
            have HO5 := Lib.hid ho5
            clear hown5 hgr hat hltv hk15 ho5 hne HOW HO1 HNEW HW1 hlk a0 a1 a2 HC1 HB1 HM1
            go_wp2_with fail
            go_roundw
            case rel => exact ⟨k + 1, N, out ++ [x], z, by omega, by go_num, rfl, by rw [List.length_append, ← HY.out]; have := HZ.out; rw [← HY.out] at this; simp; omega, by rw [List.length_append, ← HY.out]; simp; omega, HB5.out, HM5.out, HNL.out, HO5.out, by
              rw [HWG.out, HDR.out, List.append_assoc]
              show out ++ (if 0 < N x then _ else x :: wgo (l.drop (k + 1)) N) = _
              rw [if_neg (by rw [← HQ.out]; exact hq0)]
              rfl⟩
            case measure => simp [intOf]; omega
        · have hke : k = n := by omega
          have hfin : (wgo l fun m => o.count m) = out := by
            rw [hwg, List.drop_eq_nil_of_le (by rw [← HN.out]; omega)]
            simp [wgo]
          have HRES : Hid (WoRes l o w (.returned (.tuple #[u10, .int .i64 z])) wr) := Lib.hid ⟨u10, by rw [hfin, hz, HP.out, ← HN.out, hke], by rw [hfin]; exact hown, hB⟩
          obtain ⟨OA, oc, rfl, _⟩ := own_slice hown
          obtain ⟨y, hy⟩ : ∃ y, y = out.length := ⟨_, rfl⟩
          rw [← hy] at HRES ⊢
          clear hke hfin hwg hown hM hN hB hz hok hwl hy
          go_wp2
          go_ret2
          exact HRES.out
end Go.Proofs.Ytlgdminpkkhejaa
