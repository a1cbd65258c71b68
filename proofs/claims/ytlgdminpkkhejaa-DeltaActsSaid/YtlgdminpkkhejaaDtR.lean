/-
  The walks of ref40.insert, take, Sorted, SameList.
  Conditions: the messages lie in memory; there are at most 10^6.
-/
import Derived.Test.YtlgdminpkkhejaaDtO
import Derived.Test.YtlgdminpkkhejaaBexp
import Derived.Test.YtlgdminpkkhejaaBmix
namespace Go.Proofs.Ytlgdminpkkhejaa
open Go.RowKit

def isPhi (B k : Nat) (xs : List Value) (m : Msg) (i : Nat) (v : Value) (u : World) : Prop :=
  match i with
  | 3 => ∃ (A : Option Addr) (c : Nat), v = .slice A k c ∧ u.ownsRow B 40 3 (.slice A k c) k xs
  | 4 => v = msV m
  | 5 => ∃ g, v = .slice (some ⟨g, 0, none⟩) 1 1 ∧ B ≤ g ∧ u.heap[g]? = some (.cells #[.int .i64 m.1, .int .i64 m.2.1, sv m.2.2] 40 (0, 0))
  | _ => True
theorem isPhi_go {B k : Nat} {xs : List Value} {m : Msg} (i : Nat) (v : Value) (u u' : World) (h : isPhi B k xs m i v u) (hb : Below u.heap.size u u') : isPhi B k xs m i v u' := by
  have hk : Kp (fun _ => False) u u' := Kp.ofBelow hb
  unfold isPhi at h ⊢
  split at h
  · obtain ⟨A, c, h1, h2⟩ := h
    exact ⟨A, c, h1, hk.own h2 fun _ _ e => e⟩
  · exact h
  · obtain ⟨g, h1, h2, h3⟩ := h
    exact ⟨g, h1, h2, hk.heap h3 fun e => e⟩
  · trivial
set_option maxHeartbeats 1600000 in
set_option maxRecDepth 100000 in
theorem insert_any (S : Nat → Prop) (l : List Msg) (m : Msg) (A : Option Addr) (c : Nat) (w : World) (hS : ∀ y, S y → Lt w.heap.size y) (hc : l.length ≤ c) (hl : l.length ≤ 1000000) (h : Row w S A (flt msC l)) :
    Calls Try.prog 27 #[.slice A l.length c, msV m] w (RowRes (insM m l) w) := by
  obtain ⟨n, hn⟩ : ∃ n, n = l.length := ⟨_, rfl⟩
  have hx0 := alloc1 w (.cells #[.int .i64 m.1, .int .i64 m.2.1, sv m.2.2] 40)
  have hb0 : Below w.heap.size w (w.alloc (.cells #[.int .i64 m.1, .int .i64 m.2.1, sv m.2.2] 40)) := (Below.refl _ _).alloc (Nat.le_refl _) _
  have hs0 : w.heap.size < (w.alloc (.cells #[.int .i64 m.1, .int .i64 m.2.1, sv m.2.2] 40)).heap.size := by simp
  rw [← hn] at hc hl ⊢
  have HN := Lib.hid hn
  have HR := Lib.hid h
  have HSLT := Lib.hid hS
  have HX0 := Lib.hid (And.intro hs0 hx0)
  have HB0 := Lib.hid hb0
  clear hn h hS hx0 hb0 hs0
  go_enter Try.func27, Try.ntmps27
  go_wp2_with fail
  obtain ⟨w0, hw0⟩ : ∃ w0, w0 = w.alloc (.cells #[.int .i64 m.1, .int .i64 m.2.1, sv m.2.2] 40) := ⟨_, rfl⟩
  rw [← hw0] at HX0 HB0 ⊢
  clear hw0
  go_loopw [5] (fun i wr => ∃ k : Nat, k ≤ n ∧ i = .int .i64 k ∧ Below w0.heap.size w0 wr ∧ ∀ x ∈ l.take k, ltM m x = false) (fun i _ => n - (intOf i).toNat)
  case atStart => exact ⟨0, by omega, rfl, Below.refl _ _, fun x hx => by simp at hx⟩
  case round =>
    obtain ⟨k, hkn, rfl, hB, hP⟩ := hrel
    have HPL := Lib.hid hP
    by_cases hlt : k < n
    · obtain ⟨x, hx⟩ : ∃ x, l[k]? = some x := ⟨_, List.getElem?_eq_getElem (by rw [← HN.out]; exact hlt)⟩
      have hbw0 := HB0.out.trans (hB.mono HB0.out.size)
      have hrow := HR.out.keep ((kept_below hbw0).sub HSLT.out)
      obtain ⟨ad, hA, _, a0, a1, a2⟩ := ms_at hrow hx
      have hbx2 := (hB.block _ HX0.out.1).trans HX0.out.2
      obtain ⟨c0, c1, c2⟩ := ms_blk hbx2 rfl
      have hik : (0 : Int) ≤ (k : Int) ∧ (k : Int) < (n : Int) := ⟨by omega, by omega⟩
      have HX := Lib.hid hx
      have HTK : Hid (l.take (k + 1) = l.take k ++ [x]) := Lib.hid (take_snoc hx)
      have HAD := Lib.hid hA
      have HBR := Lib.hid hB
      have HCC : Hid (AtCells [(⟨w.heap.size, 0, none⟩, .int .i64 m.1), (⟨w.heap.size, 0 + 1, none⟩, .int .i64 m.2.1), (⟨w.heap.size, 0 + 2, none⟩, sv m.2.2), (ad.add (k * 3), .int .i64 x.1), (⟨(ad.add (k * 3)).block, (ad.add (k * 3)).off + 1, none⟩, .int .i64 x.2.1), (⟨(ad.add (k * 3)).block, (ad.add (k * 3)).off + 2, none⟩, sv x.2.2)] wr) := Lib.hid ⟨c0, c1, c2, a0, a1, a2, trivial⟩
      clear hrow hx hbx2 hbw0 hB hP a0 a1 a2 c0 c1 c2
      rw [hA]
      clear hA
      go_wp2_with fail
      refine wp_region_mix (AtCells [(⟨w.heap.size, 0, none⟩, .int .i64 m.1), (⟨w.heap.size, 0 + 1, none⟩, .int .i64 m.2.1), (⟨w.heap.size, 0 + 2, none⟩, sv m.2.2), (ad.add (k * 3), .int .i64 x.1), (⟨(ad.add (k * 3)).block, (ad.add (k * 3)).off + 1, none⟩, .int .i64 x.2.1), (⟨(ad.add (k * 3)).block, (ad.add (k * 3)).off + 2, none⟩, sv x.2.2)]) [(true, 0), (true, 1), (true, 2), (true, 3), (true, 4), (true, 5), (true, 6), (true, 7), (true, 8), (true, 9), (false, 10), (true, 11), (true, 12)] [] (by kernel_rfl) (by kernel_rfl) ?s0 ?h0
      case s0 => exact HCC.out.below (Below.refl _ wr).drew
      case h0 =>
      simp only [mixAt, List.filterMap_cons, List.filterMap_nil, List.getElem?_toArray, List.getElem?_cons_succ, List.getElem?_cons_zero, Option.map_some]
      refine wpMix_load ?va0 rfl (fun w' hS => ?ya0) ?ka0
      case ya0 =>
        obtain ⟨g0, g1, g2, g3, g4, g5, _⟩ := hS
        go_simp
        try rfl
      case ka0 =>
      go_simp
      refine wpMix_load ?va1 rfl (fun w' hS => ?ya1) ?ka1
      case ya1 =>
        obtain ⟨g0, g1, g2, g3, g4, g5, _⟩ := hS
        go_simp
        try rfl
      case ka1 =>
      go_simp
      refine wpMix_load ?va2 rfl (fun w' hS => ?ya2) ?ka2
      case ya2 =>
        obtain ⟨g0, g1, g2, g3, g4, g5, _⟩ := hS
        go_simp
        try rfl
      case ka2 =>
      go_simp
      refine wpMix_load ?va3 rfl (fun w' hS => ?ya3) ?ka3
      case ya3 =>
        obtain ⟨g0, g1, g2, g3, g4, g5, _⟩ := hS
        go_simp
        try rfl
      case ka3 =>
      go_simp
      refine wpMix_load ?va4 rfl (fun w' hS => ?ya4) ?ka4
      case ya4 =>
        obtain ⟨g0, g1, g2, g3, g4, g5, _⟩ := hS
        go_simp
        try rfl
      case ka4 =>
      go_simp
      refine wpMix_load ?va5 rfl (fun w' hS => ?ya5) ?ka5
      case ya5 =>
        obtain ⟨g0, g1, g2, g3, g4, g5, _⟩ := hS
        go_simp
        try rfl
      case ka5 =>
      go_simp
      refine wpMix_load ?va6 rfl (fun w' hS => ?ya6) ?ka6
      case ya6 =>
        obtain ⟨g0, g1, g2, g3, g4, g5, _⟩ := hS
        go_simp
        try rfl
      case ka6 =>
      go_simp
      refine wpMix_load ?va7 rfl (fun w' hS => ?ya7) ?ka7
      case ya7 =>
        obtain ⟨g0, g1, g2, g3, g4, g5, _⟩ := hS
        go_simp
        try rfl
      case ka7 =>
      go_simp
      refine wpMix_load ?va8 rfl (fun w' hS => ?ya8) ?ka8
      case ya8 =>
        obtain ⟨g0, g1, g2, g3, g4, g5, _⟩ := hS
        go_simp
        try rfl
      case ka8 =>
      go_simp
      refine wpMix_load ?va9 rfl (fun w' hS => ?ya9) ?ka9
      case ya9 =>
        obtain ⟨g0, g1, g2, g3, g4, g5, _⟩ := hS
        go_simp
        try rfl
      case ka9 =>
      go_simp
      refine wpMix_keep rfl ?_
      go_wp2_with fail
      refine (less_any m x wr.drew).mono ?_
      rintro e w1 ⟨rfl, hb1⟩
      have hb1 : Below wr.heap.size wr w1 := (Below.refl _ wr).drew.trans hb1
      refine ⟨HCC.out.below hb1, ?_⟩
      have HB := Lib.hid (HBR.out.trans (hb1.mono HBR.out.size))
      have HBW := Lib.hid (HB0.out.trans (HB.out.mono HB0.out.size))
      clear hb1 HBR HCC
      cases hm : ltM m x with
      | true =>
        have HNL : Hid (∀ x, l[k]? = some x → ltM m x = true) := Lib.hid fun y hy => by rw [HX.out] at hy; cases hy; exact hm
        clear hm
        refine wpMix_load ?vb11 rfl (fun w' hS => ?yb11) ?kb11
        case yb11 =>
          obtain _ := hS
          go_simp
          try rfl
        case kb11 =>
        go_simp
        refine wpMix_load ?vb12 rfl (fun w' hS => ?yb12) ?kb12
        case yb12 =>
          obtain _ := hS
          go_simp
          try rfl
        case kb12 =>
        go_simp
        refine wpMix_nil ?_
        simp only [opsAt, List.filterMap_nil, List.getElem?_toArray]
        go_wp2
        refine NoPanic.normal ?_
        go_wp2_with fail
        rw [← HAD.out]
        clear HAD HTK HX
        obtain ⟨w2, hw2⟩ : ∃ w2, w2 = wr := ⟨_, rfl⟩
        clear hw2
        obtain ⟨wr, hwr⟩ : ∃ wr, wr = w1 := ⟨_, rfl⟩
        rw [← hwr] at HB HBW ⊢
        clear hwr
        have hFR := HR.out.front (k * 3)
        rw [flt_take msC_len] at hFR
        have hBK := back_row msC_len HR.out (ys := l) HN.out.symm hc k
        obtain ⟨SB, hSB⟩ : ∃ SB, SB = backOf A 3 c k := ⟨_, rfl⟩
        rw [← hSB] at hBK
        have HSB := Lib.hid hSB
        have hkept : Kept S w wr := (kept_below HBW.out).sub HSLT.out
        have HFR := Lib.hid (hFR.keep hkept)
        have HBK := Lib.hid (hBK.keep hkept)
        have hbx2 := (HB.out.block _ HX0.out.1).trans HX0.out.2
        obtain ⟨c0, c1, c2⟩ := ms_blk hbx2 rfl
        have hkc : (0 : Int) ≤ (k : Int) ∧ (k : Int) ≤ (c : Int) ∧ (k : Int) ≤ (n : Int) := ⟨by omega, by omega, by omega⟩
        have hwsz := HBW.out.size
        obtain ⟨i0, hi, hz0, hz1, hz2⟩ := info_parts infoMs
        clear hFR hBK hSB hkept hbx2
        refine wp_region_fexp (fun u => Below wr.heap.size wr u ∧ AtCells [(⟨w.heap.size, 0, none⟩, .int .i64 m.1), (⟨w.heap.size, 0 + 1, none⟩, .int .i64 m.2.1), (⟨w.heap.size, 0 + 2, none⟩, sv m.2.2)] u) (fun u v => Below u.heap.size u v) (isPhi w.heap.size k (flt msC (l.take k)) m) [0, 1, 2, 7, 8, 9] [] [(3, 24), (4, 25), (5, 26)] [6, 10, 11] (by kernel_rfl) (by kernel_rfl) (by kernel_rfl) (fun _ => Below.refl _ _) (fun a b c h h' => h.trans (h'.mono h.size)) isPhi_go ?sI ?hI
        case sI => exact ⟨(Below.refl _ wr).drew, c0, c1, c2, trivial⟩
        case hI =>
        have HC : Hid (∀ u, Below wr.heap.size wr u → AtCells [(⟨w.heap.size, 0, none⟩, .int .i64 m.1), (⟨w.heap.size, 0 + 1, none⟩, .int .i64 m.2.1), (⟨w.heap.size, 0 + 2, none⟩, sv m.2.2)] u) := Lib.hid fun u hu => ⟨(hu.cell (block_lt_of_cell c0)).trans c0, (hu.cell (block_lt_of_cell c1)).trans c1, (hu.cell (block_lt_of_cell c2)).trans c2, trivial⟩
        clear c0 c1 c2
        simp only [opsAt, List.filterMap_cons, List.filterMap_nil, List.getElem?_toArray, List.getElem?_cons_succ, List.getElem?_cons_zero]
        refine wpFloat_step ?vIa0 rfl (fun w' => ?yIa0) ?kIa0
        case yIa0 =>
          go_simp
          try rfl
        case kIa0 =>
        go_simp
        refine wpFloat_step ?vIa1 rfl (fun w' => ?yIa1) ?kIa1
        case yIa1 =>
          go_simp
          try rfl
        case kIa1 =>
        go_simp
        refine wpFloat_step (.slice A k c) rfl (fun w' => ?yI2) ?kI2
        case yI2 =>
          go_simp
          try simp only [← front_of A k c 3]
          try rfl
        case kI2 =>
        go_simp
        refine wpFloat_step ?vIb7 rfl (fun w' => ?yIb7) ?kIb7
        case yIb7 =>
          go_simp
          try rfl
        case kIb7 =>
        go_simp
        refine wpFloat_step ?vIb8 rfl (fun w' => ?yIb8) ?kIb8
        case yIb8 =>
          go_simp
          try rfl
        case kIb8 =>
        go_simp
        refine wpFloat_step (.slice SB (n - k) (c - k)) rfl (fun w' => ?yI9) ?kI9
        case yI9 =>
          go_simp
          rw [HSB.out]
          try rfl
        case kI9 =>
        go_simp
        refine wpFloat_nil ?_
        refine ⟨?szI, ?stI, (fun i hi => by cases hi), ?finI⟩
        case szI =>
          intro x hx
          simp only [List.mem_cons, List.not_mem_nil, or_false] at hx
          rcases hx with rfl | rfl | rfl <;> simp
        case stI =>
          intro x hx _
          simp only [List.mem_cons, List.not_mem_nil, or_false] at hx
          rcases hx with rfl | rfl | rfl
          · intro a' w7 K hI hK
            have e23 := hI.old 23 _ rfl (by decide)
            have hS := hI.hold
            have hK : ∀ v w', Below w7.heap.size w7 w' → _ → (∃ (A : Option Addr) (c : Nat), v = .slice A k c ∧ w'.ownsRow w.heap.size 40 3 (.slice A k c) k (flt msC (l.take k))) → K (a'.put (some 24) v) w' := hK
            have hfr := (HFR.out.keep ((kept_below hS.1).sub fun y hy => by have := HSLT.out y hy; unfold Lt at this ⊢; omega)).more (S' := S) fun _ h => h
            have hsz7 := hS.1.size
            clear hI
            refine wpOp_go rfl rfl ?_
            refine wp_append_row _ _ 22 rfl w.heap.size 40 i0 _ 3 32 Try.underlying22 hi hz0 hz1 hz2 rfl (by omega) (.slice none 0 0) 0 [] rfl (World.ownsRow_nil _ _ _ _) S A k c (flt msC (l.take k)) (eval_tmp e23) (by rw [flt_length msC_len, List.length_take, ← HN.out]; congr 1; omega) hfr (flt_one' msC_one _) (by unfold maxLen; omega) (by omega) (by omega) ?_
            intro v' w8 hown hg _
            rw [Nat.zero_add, List.nil_append] at hown
            have hb8 : Below w7.heap.size w7 w8 := (Below.refl _ w7).grown hg (Nat.le_refl _) (fun r hr => by cases hr)
            obtain ⟨A8, c8, rfl, _⟩ := own_slice hown
            exact hK _ _ hb8 ⟨hS.1.trans (hb8.mono hsz7), HC.out _ (hS.1.trans (hb8.mono hsz7))⟩ ⟨A8, c8, rfl, hown⟩
          · intro a' w7 K hI hK
            have e3 := hI.old 3 _ rfl (by decide)
            have hS := hI.hold
            have hK : ∀ v w', Below w7.heap.size w7 w' → _ → (v = msV m) → K (a'.put (some 25) v) w' := hK
            obtain ⟨g0, g1, g2, _⟩ := hS.2
            clear hI
            refine wpOp_go rfl rfl ?_
            go_simp
            exact hK _ _ (Below.refl _ _) hS rfl
          · intro a' w7 K hI hK
            obtain ⟨v1, e25, hv⟩ := hI.new (4, 25) (by decide) (by kernel_rfl)
            obtain rfl : v1 = msV m := hv
            have hS := hI.hold
            have hK : ∀ v w', Below w7.heap.size w7 w' → _ → (∃ g, v = .slice (some ⟨g, 0, none⟩) 1 1 ∧ w.heap.size ≤ g ∧ w'.heap[g]? = some (.cells #[.int .i64 m.1, .int .i64 m.2.1, sv m.2.2] 40 (0, 0))) → K (a'.put (some 26) v) w' := hK
            have hb7 : Below w7.heap.size w7 (w7.alloc (.cells #[.int .i64 m.1, .int .i64 m.2.1, sv m.2.2] 40)) := (Below.refl _ _).alloc (Nat.le_refl _) _
            have ha7 := alloc1 w7 (.cells #[.int .i64 m.1, .int .i64 m.2.1, sv m.2.2] 40)
            have hsz7 := hS.1.size
            clear hI
            refine wpOp_go rfl rfl ?_
            go_simp
            exact hK _ _ hb7 ⟨hS.1.trans (hb7.mono hsz7), HC.out _ (hS.1.trans (hb7.mono hsz7))⟩ ⟨_, rfl, by omega, ha7⟩
        case finI =>
          intro vs w6 _ hS6 hΦ
          have q3 : ∃ (A : Option Addr) (c : Nat), vs 3 = .slice A k c ∧ w6.ownsRow w.heap.size 40 3 (.slice A k c) k (flt msC (l.take k)) := hΦ (3, 24) (by decide)
          have q4 : vs 4 = msV m := hΦ (4, 25) (by decide)
          have q5 : ∃ g, vs 5 = .slice (some ⟨g, 0, none⟩) 1 1 ∧ w.heap.size ≤ g ∧ w6.heap[g]? = some (.cells #[.int .i64 m.1, .int .i64 m.2.1, sv m.2.2] 40 (0, 0)) := hΦ (5, 26) (by decide)
          obtain ⟨A3, c3, e3, hown3⟩ := q3
          obtain ⟨g5, e5, hg5, hblk⟩ := q5
          simp only [putD, e3, q4, e5]
          clear e3 q4 e5 hΦ vs
          have hb6 := hS6.1
          have hs6 := hb6.size
          have HBK6 := Lib.hid (HBK.out.keep ((kept_below hb6).sub fun y hy => by have := HSLT.out y hy; unfold Lt at this ⊢; omega))
          have HB6 := Lib.hid hb6
          have hrow5 : Row w6 (fun y => y = g5) (some ⟨g5, 0, none⟩) (msC m) := row_heap hblk rfl rfl
          clear hS6 hb6 HC HFR HBK
          simp only [opsAt, List.filterMap_cons, List.filterMap_nil, List.getElem?_toArray, List.getElem?_cons_succ, List.getElem?_cons_zero]
          refine (wpList_append_row rfl _ _ 22 rfl w.heap.size 40 i0 _ 3 32 Try.underlying22 hi hz0 hz1 hz2 rfl (by omega) (.slice A3 k c3) k (flt msC (l.take k)) rfl hown3 (fun y => y = g5) (some ⟨g5, 0, none⟩) 1 1 (msC m) rfl rfl hrow5 (msC_one m) (by unfold maxLen; omega) (by omega) (by omega) ?_)
          intro v7 w7 hown7 hg7 _
          obtain ⟨A7, c7, rfl, _⟩ := own_slice hown7
          have hlt3 := hown3.lt
          have hk7 : Kp (fun y => w.heap.size ≤ y) w6 w7 := (Kp.refl _ _).grown hg7 (fun r hr _ => (hlt3 r hr).1)
          have hs7 := hk7.size
          have hrowB := HBK6.out.keep (hk7.kept fun y hy => ⟨by have := HSLT.out y hy; unfold Lt at this; omega, by have := HSLT.out y hy; unfold Lt at this; omega⟩)
          have HK7 := Lib.hid hk7
          have hlt7 := hown7.lt
          refine (wpList_append_row rfl _ _ 22 rfl w.heap.size 40 i0 _ 3 32 Try.underlying22 hi hz0 hz1 hz2 rfl (by omega) (.slice A7 (k + 1) c7) (k + 1) (flt msC (l.take k) ++ msC m) rfl hown7 S SB (n - k) (c - k) (flt msC (l.drop k)) rfl (by rw [flt_length msC_len, List.length_drop, ← HN.out]) hrowB (flt_one' msC_one _) (by unfold maxLen; omega) (by omega) (by omega) ?_)
          intro v8 w8 hown8 hg8 _
          have hk8 : Kp (fun y => w.heap.size ≤ y) w7 w8 := (Kp.refl _ _).grown hg8 (fun r hr _ => (hlt7 r hr).1)
          have hLN : insM m l = l.take k ++ m :: l.drop k := insM_split m l k HPL.out HNL.out
          have hLNl : (insM m l).length = n + 1 := by rw [(insM_perm m l).length_eq, HN.out]; rfl
          rw [show flt msC (l.take k) ++ msC m ++ flt msC (l.drop k) = flt msC (insM m l) by rw [hLN, flt_append, flt_cons, List.append_assoc], show k + 1 + (n - k) = n + 1 by omega] at hown8
          have hk68 := hk7.trans hk8 (fun _ _ e => e)
          have hb8 : Below w.heap.size w w8 := kp_below (HBW.out.trans (HB6.out.mono hwsz)) hk68 fun _ e => e
          have HRES : Hid (RowRes (insM m l) w (.returned v8) w8) := Lib.hid ⟨v8, rfl, by rw [hLNl]; exact hown8, hb8⟩
          obtain ⟨A8, c8, rfl, _⟩ := own_slice hown8
          clear hown3 hown7 hown8 hg7 hg8 hlt3 hlt7 hk7 hk8 hk68 hb8 hrowB hrow5 hblk hLN hLNl HK7 HBK6 HB6 hi hz0 hz1 hz2
          go_wp2
          refine NoPanic.normal ?_
          go_wp2
          go_ret
          exact HRES.out
      | false =>
        have HLE := Lib.hid hm
        clear hm
        refine wpMix_load ?vc11 rfl (fun w' hS => ?yc11) ?kc11
        case yc11 =>
          obtain _ := hS
          go_simp
          try rfl
        case kc11 =>
        go_simp
        refine wpMix_load ?vc12 rfl (fun w' hS => ?yc12) ?kc12
        case yc12 =>
          obtain _ := hS
          go_simp
          try rfl
        case kc12 =>
        go_simp
        refine wpMix_nil ?_
        simp only [opsAt, List.filterMap_nil, List.getElem?_toArray]
        go_wp2
        refine NoPanic.normal ?_
        go_wp2_with fail
        go_roundw
        case rel =>
          refine ⟨k + 1, by omega, by go_num, HB.out, fun y hy => ?_⟩
          rw [HTK.out] at hy
          rcases List.mem_append.1 hy with hy | hy
          · exact HPL.out y hy
          · rw [List.mem_singleton.1 hy]
            exact HLE.out
        case measure => simp [intOf]; omega
    · have HNL : Hid (∀ x, l[k]? = some x → ltM m x = true) := Lib.hid fun y hy => by have := (List.getElem?_eq_some_iff.1 hy).1; have := HN.out; omega
      have HBR := Lib.hid hB
      clear hB hP
      go_wp2_with fail
      refine wp_region_mix (fun _ => True) [(true, 0), (true, 1), (true, 2), (true, 3), (true, 4), (true, 5), (true, 6), (true, 7), (true, 8), (true, 9), (true, 10), (true, 11), (true, 12)] [] (by kernel_rfl) (by kernel_rfl) ?s1 ?h1
      case s1 => trivial
      case h1 =>
      simp only [mixAt, List.filterMap_cons, List.filterMap_nil, List.getElem?_toArray, List.getElem?_cons_succ, List.getElem?_cons_zero, Option.map_some]
      refine wpMix_load ?vd0 rfl (fun w' hS => ?yd0) ?kd0
      case yd0 =>
        obtain _ := hS
        go_simp
        try rfl
      case kd0 =>
      go_simp
      refine wpMix_load ?vd1 rfl (fun w' hS => ?yd1) ?kd1
      case yd1 =>
        obtain _ := hS
        go_simp
        try rfl
      case kd1 =>
      go_simp
      refine wpMix_load ?vd2 rfl (fun w' hS => ?yd2) ?kd2
      case yd2 =>
        obtain _ := hS
        go_simp
        try rfl
      case kd2 =>
      go_simp
      refine wpMix_load ?vd3 rfl (fun w' hS => ?yd3) ?kd3
      case yd3 =>
        obtain _ := hS
        go_simp
        try rfl
      case kd3 =>
      go_simp
      refine wpMix_load ?vd4 rfl (fun w' hS => ?yd4) ?kd4
      case yd4 =>
        obtain _ := hS
        go_simp
        try rfl
      case kd4 =>
      go_simp
      refine wpMix_skip rfl ?_
      go_simp
      refine wpMix_skip rfl ?_
      go_simp
      refine wpMix_skip rfl ?_
      go_simp
      refine wpMix_skip rfl ?_
      go_simp
      refine wpMix_skip rfl ?_
      go_simp
      refine wpMix_skip rfl ?_
      go_simp
      refine wpMix_skip rfl ?_
      go_simp
      refine wpMix_load ?ve12 rfl (fun w' hS => ?ye12) ?ke12
      case ye12 =>
        obtain _ := hS
        go_simp
        try rfl
      case ke12 =>
      go_simp
      refine wpMix_nil ?_
      simp only [opsAt, List.filterMap_nil, List.getElem?_toArray]
      go_wp2
      refine NoPanic.normal ?_
      go_wp2_with fail
      have HB := Lib.hid HBR.out.drew
      have HBW := Lib.hid (HB0.out.trans (HB.out.mono HB0.out.size))
      clear HBR
      generalize wr.drew = wr at *
      have hFR := HR.out.front (k * 3)
      rw [flt_take msC_len] at hFR
      have hBK := back_row msC_len HR.out (ys := l) HN.out.symm hc k
      obtain ⟨SB, hSB⟩ : ∃ SB, SB = backOf A 3 c k := ⟨_, rfl⟩
      rw [← hSB] at hBK
      have HSB := Lib.hid hSB
      have hkept : Kept S w wr := (kept_below HBW.out).sub HSLT.out
      have HFR := Lib.hid (hFR.keep hkept)
      have HBK := Lib.hid (hBK.keep hkept)
      have hbx2 := (HB.out.block _ HX0.out.1).trans HX0.out.2
      obtain ⟨c0, c1, c2⟩ := ms_blk hbx2 rfl
      have hkc : (0 : Int) ≤ (k : Int) ∧ (k : Int) ≤ (c : Int) ∧ (k : Int) ≤ (n : Int) := ⟨by omega, by omega, by omega⟩
      have hwsz := HBW.out.size
      obtain ⟨i0, hi, hz0, hz1, hz2⟩ := info_parts infoMs
      clear hFR hBK hSB hkept hbx2
      refine wp_region_fexp (fun u => Below wr.heap.size wr u ∧ AtCells [(⟨w.heap.size, 0, none⟩, .int .i64 m.1), (⟨w.heap.size, 0 + 1, none⟩, .int .i64 m.2.1), (⟨w.heap.size, 0 + 2, none⟩, sv m.2.2)] u) (fun u v => Below u.heap.size u v) (isPhi w.heap.size k (flt msC (l.take k)) m) [0, 1, 2, 7, 8, 9] [] [(3, 24), (4, 25), (5, 26)] [6, 10, 11] (by kernel_rfl) (by kernel_rfl) (by kernel_rfl) (fun _ => Below.refl _ _) (fun a b c h h' => h.trans (h'.mono h.size)) isPhi_go ?sJ ?hJ
      case sJ => exact ⟨(Below.refl _ wr).drew, c0, c1, c2, trivial⟩
      case hJ =>
      have HC : Hid (∀ u, Below wr.heap.size wr u → AtCells [(⟨w.heap.size, 0, none⟩, .int .i64 m.1), (⟨w.heap.size, 0 + 1, none⟩, .int .i64 m.2.1), (⟨w.heap.size, 0 + 2, none⟩, sv m.2.2)] u) := Lib.hid fun u hu => ⟨(hu.cell (block_lt_of_cell c0)).trans c0, (hu.cell (block_lt_of_cell c1)).trans c1, (hu.cell (block_lt_of_cell c2)).trans c2, trivial⟩
      clear c0 c1 c2
      simp only [opsAt, List.filterMap_cons, List.filterMap_nil, List.getElem?_toArray, List.getElem?_cons_succ, List.getElem?_cons_zero]
      refine wpFloat_step ?vJa0 rfl (fun w' => ?yJa0) ?kJa0
      case yJa0 =>
        go_simp
        try rfl
      case kJa0 =>
      go_simp
      refine wpFloat_step ?vJa1 rfl (fun w' => ?yJa1) ?kJa1
      case yJa1 =>
        go_simp
        try rfl
      case kJa1 =>
      go_simp
      refine wpFloat_step (.slice A k c) rfl (fun w' => ?yJ2) ?kJ2
      case yJ2 =>
        go_simp
        try simp only [← front_of A k c 3]
        try rfl
      case kJ2 =>
      go_simp
      refine wpFloat_step ?vJb7 rfl (fun w' => ?yJb7) ?kJb7
      case yJb7 =>
        go_simp
        try rfl
      case kJb7 =>
      go_simp
      refine wpFloat_step ?vJb8 rfl (fun w' => ?yJb8) ?kJb8
      case yJb8 =>
        go_simp
        try rfl
      case kJb8 =>
      go_simp
      refine wpFloat_step (.slice SB (n - k) (c - k)) rfl (fun w' => ?yJ9) ?kJ9
      case yJ9 =>
        go_simp
        rw [HSB.out]
        try rfl
      case kJ9 =>
      go_simp
      refine wpFloat_nil ?_
      refine ⟨?szJ, ?stJ, (fun i hi => by cases hi), ?finJ⟩
      case szJ =>
        intro x hx
        simp only [List.mem_cons, List.not_mem_nil, or_false] at hx
        rcases hx with rfl | rfl | rfl <;> simp
      case stJ =>
        intro x hx _
        simp only [List.mem_cons, List.not_mem_nil, or_false] at hx
        rcases hx with rfl | rfl | rfl
        · intro a' w7 K hI hK
          have e23 := hI.old 23 _ rfl (by decide)
          have hS := hI.hold
          have hK : ∀ v w', Below w7.heap.size w7 w' → _ → (∃ (A : Option Addr) (c : Nat), v = .slice A k c ∧ w'.ownsRow w.heap.size 40 3 (.slice A k c) k (flt msC (l.take k))) → K (a'.put (some 24) v) w' := hK
          have hfr := (HFR.out.keep ((kept_below hS.1).sub fun y hy => by have := HSLT.out y hy; unfold Lt at this ⊢; omega)).more (S' := S) fun _ h => h
          have hsz7 := hS.1.size
          clear hI
          refine wpOp_go rfl rfl ?_
          refine wp_append_row _ _ 22 rfl w.heap.size 40 i0 _ 3 32 Try.underlying22 hi hz0 hz1 hz2 rfl (by omega) (.slice none 0 0) 0 [] rfl (World.ownsRow_nil _ _ _ _) S A k c (flt msC (l.take k)) (eval_tmp e23) (by rw [flt_length msC_len, List.length_take, ← HN.out]; congr 1; omega) hfr (flt_one' msC_one _) (by unfold maxLen; omega) (by omega) (by omega) ?_
          intro v' w8 hown hg _
          rw [Nat.zero_add, List.nil_append] at hown
          have hb8 : Below w7.heap.size w7 w8 := (Below.refl _ w7).grown hg (Nat.le_refl _) (fun r hr => by cases hr)
          obtain ⟨A8, c8, rfl, _⟩ := own_slice hown
          exact hK _ _ hb8 ⟨hS.1.trans (hb8.mono hsz7), HC.out _ (hS.1.trans (hb8.mono hsz7))⟩ ⟨A8, c8, rfl, hown⟩
        · intro a' w7 K hI hK
          have e3 := hI.old 3 _ rfl (by decide)
          have hS := hI.hold
          have hK : ∀ v w', Below w7.heap.size w7 w' → _ → (v = msV m) → K (a'.put (some 25) v) w' := hK
          obtain ⟨g0, g1, g2, _⟩ := hS.2
          clear hI
          refine wpOp_go rfl rfl ?_
          go_simp
          exact hK _ _ (Below.refl _ _) hS rfl
        · intro a' w7 K hI hK
          obtain ⟨v1, e25, hv⟩ := hI.new (4, 25) (by decide) (by kernel_rfl)
          obtain rfl : v1 = msV m := hv
          have hS := hI.hold
          have hK : ∀ v w', Below w7.heap.size w7 w' → _ → (∃ g, v = .slice (some ⟨g, 0, none⟩) 1 1 ∧ w.heap.size ≤ g ∧ w'.heap[g]? = some (.cells #[.int .i64 m.1, .int .i64 m.2.1, sv m.2.2] 40 (0, 0))) → K (a'.put (some 26) v) w' := hK
          have hb7 : Below w7.heap.size w7 (w7.alloc (.cells #[.int .i64 m.1, .int .i64 m.2.1, sv m.2.2] 40)) := (Below.refl _ _).alloc (Nat.le_refl _) _
          have ha7 := alloc1 w7 (.cells #[.int .i64 m.1, .int .i64 m.2.1, sv m.2.2] 40)
          have hsz7 := hS.1.size
          clear hI
          refine wpOp_go rfl rfl ?_
          go_simp
          exact hK _ _ hb7 ⟨hS.1.trans (hb7.mono hsz7), HC.out _ (hS.1.trans (hb7.mono hsz7))⟩ ⟨_, rfl, by omega, ha7⟩
      case finJ =>
        intro vs w6 _ hS6 hΦ
        have q3 : ∃ (A : Option Addr) (c : Nat), vs 3 = .slice A k c ∧ w6.ownsRow w.heap.size 40 3 (.slice A k c) k (flt msC (l.take k)) := hΦ (3, 24) (by decide)
        have q4 : vs 4 = msV m := hΦ (4, 25) (by decide)
        have q5 : ∃ g, vs 5 = .slice (some ⟨g, 0, none⟩) 1 1 ∧ w.heap.size ≤ g ∧ w6.heap[g]? = some (.cells #[.int .i64 m.1, .int .i64 m.2.1, sv m.2.2] 40 (0, 0)) := hΦ (5, 26) (by decide)
        obtain ⟨A3, c3, e3, hown3⟩ := q3
        obtain ⟨g5, e5, hg5, hblk⟩ := q5
        simp only [putD, e3, q4, e5]
        clear e3 q4 e5 hΦ vs
        have hb6 := hS6.1
        have hs6 := hb6.size
        have HBK6 := Lib.hid (HBK.out.keep ((kept_below hb6).sub fun y hy => by have := HSLT.out y hy; unfold Lt at this ⊢; omega))
        have HB6 := Lib.hid hb6
        have hrow5 : Row w6 (fun y => y = g5) (some ⟨g5, 0, none⟩) (msC m) := row_heap hblk rfl rfl
        clear hS6 hb6 HC HFR HBK
        simp only [opsAt, List.filterMap_cons, List.filterMap_nil, List.getElem?_toArray, List.getElem?_cons_succ, List.getElem?_cons_zero]
        refine (wpList_append_row rfl _ _ 22 rfl w.heap.size 40 i0 _ 3 32 Try.underlying22 hi hz0 hz1 hz2 rfl (by omega) (.slice A3 k c3) k (flt msC (l.take k)) rfl hown3 (fun y => y = g5) (some ⟨g5, 0, none⟩) 1 1 (msC m) rfl rfl hrow5 (msC_one m) (by unfold maxLen; omega) (by omega) (by omega) ?_)
        intro v7 w7 hown7 hg7 _
        obtain ⟨A7, c7, rfl, _⟩ := own_slice hown7
        have hlt3 := hown3.lt
        have hk7 : Kp (fun y => w.heap.size ≤ y) w6 w7 := (Kp.refl _ _).grown hg7 (fun r hr _ => (hlt3 r hr).1)
        have hs7 := hk7.size
        have hrowB := HBK6.out.keep (hk7.kept fun y hy => ⟨by have := HSLT.out y hy; unfold Lt at this; omega, by have := HSLT.out y hy; unfold Lt at this; omega⟩)
        have HK7 := Lib.hid hk7
        have hlt7 := hown7.lt
        refine (wpList_append_row rfl _ _ 22 rfl w.heap.size 40 i0 _ 3 32 Try.underlying22 hi hz0 hz1 hz2 rfl (by omega) (.slice A7 (k + 1) c7) (k + 1) (flt msC (l.take k) ++ msC m) rfl hown7 S SB (n - k) (c - k) (flt msC (l.drop k)) rfl (by rw [flt_length msC_len, List.length_drop, ← HN.out]) hrowB (flt_one' msC_one _) (by unfold maxLen; omega) (by omega) (by omega) ?_)
        intro v8 w8 hown8 hg8 _
        have hk8 : Kp (fun y => w.heap.size ≤ y) w7 w8 := (Kp.refl _ _).grown hg8 (fun r hr _ => (hlt7 r hr).1)
        have hLN : insM m l = l.take k ++ m :: l.drop k := insM_split m l k HPL.out HNL.out
        have hLNl : (insM m l).length = n + 1 := by rw [(insM_perm m l).length_eq, HN.out]; rfl
        rw [show flt msC (l.take k) ++ msC m ++ flt msC (l.drop k) = flt msC (insM m l) by rw [hLN, flt_append, flt_cons, List.append_assoc], show k + 1 + (n - k) = n + 1 by omega] at hown8
        have hk68 := hk7.trans hk8 (fun _ _ e => e)
        have hb8 : Below w.heap.size w w8 := kp_below (HBW.out.trans (HB6.out.mono hwsz)) hk68 fun _ e => e
        have HRES : Hid (RowRes (insM m l) w (.returned v8) w8) := Lib.hid ⟨v8, rfl, by rw [hLNl]; exact hown8, hb8⟩
        obtain ⟨A8, c8, rfl, _⟩ := own_slice hown8
        clear hown3 hown7 hown8 hg7 hg8 hlt3 hlt7 hk7 hk8 hk68 hb8 hrowB hrow5 hblk hLN hLNl HK7 HBK6 HB6 hi hz0 hz1 hz2
        go_wp2
        refine NoPanic.normal ?_
        go_wp2
        go_ret
        exact HRES.out
end Go.Proofs.Ytlgdminpkkhejaa
