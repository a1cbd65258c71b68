/-
  The walks of ref40.take, Sorted, SameList.
  Conditions: the messages lie in memory; there are at most 10^6.
-/
import Derived.Test.YtlgdminpkkhejaaDtR
namespace Go.Proofs.Ytlgdminpkkhejaa
open Go.RowKit

theorem erase_split {l : List Msg} {m : Msg} {k : Nat} (h1 : ∀ x ∈ l.take k, x ≠ m) (h2 : l[k]? = some m) : l.erase m = l.take k ++ l.drop (k + 1) := by
  induction l generalizing k with
  | nil => cases h2
  | cons x r ih =>
    cases k with
    | zero =>
      obtain rfl : x = m := Option.some.inj h2
      simp
    | succ k =>
      have hx : ¬ x = m := h1 x (by simp)
      rw [List.erase_cons, show (x == m) = false by simpa using hx]
      simp only [List.take_succ_cons, List.drop_succ_cons, List.cons_append]
      rw [← ih (fun y hy => h1 y (by simp [hy])) (by simpa using h2)]
      rfl
def TakeRes (l : List Msg) (m : Msg) (v0 : Value) (w : World) (e : Ending) (w' : World) : Prop :=
  ∃ (v : Value) (b : Bool), e = .returned (.tuple #[v, .bool b]) ∧ b = decide (m ∈ l) ∧ Below w.heap.size w w' ∧ (b = true → w'.ownsRow w.heap.size 40 3 v (l.erase m).length (flt msC (l.erase m))) ∧ (b = false → v = v0)
set_option maxHeartbeats 1600000 in
set_option maxRecDepth 100000 in
theorem take_any (S : Nat → Prop) (l : List Msg) (m : Msg) (A : Option Addr) (c : Nat) (w : World) (hS : ∀ y, S y → Lt w.heap.size y) (hc : l.length ≤ c) (hl : l.length ≤ 1000000) (h : Row w S A (flt msC l)) :
    Calls Try.prog 34 #[.slice A l.length c, msV m] w (TakeRes l m (.slice A l.length c) w) := by
  obtain ⟨n, hn⟩ : ∃ n, n = l.length := ⟨_, rfl⟩
  have hx0 := alloc1 w (.cells #[.int .i64 m.1, .int .i64 m.2.1, sv m.2.2] 40)
  have hb0 : Below w.heap.size w (w.alloc (.cells #[.int .i64 m.1, .int .i64 m.2.1, sv m.2.2] 40)) := (Below.refl _ _).alloc (Nat.le_refl _) _
  have hs0 : w.heap.size < (w.alloc (.cells #[.int .i64 m.1, .int .i64 m.2.1, sv m.2.2] 40)).heap.size := by simp
  rw [← hn] at hc hl ⊢
  have HN := Lib.hid hn
  have HR := Lib.hid h
  have HSLT := Lib.hid hS
  have HX0 := Lib.hid (And.intro hs0 hx0)
  have HB0 := Lib.hid hb0
  clear hn h hS hx0 hb0 hs0
  go_enter Try.func34, Try.ntmps34
  go_wp2_with fail
  obtain ⟨w0, hw0⟩ : ∃ w0, w0 = w.alloc (.cells #[.int .i64 m.1, .int .i64 m.2.1, sv m.2.2] 40) := ⟨_, rfl⟩
  rw [← hw0] at HX0 HB0 ⊢
  clear hw0
  go_loopw [10] (fun i wr => ∃ k : Nat, k ≤ n ∧ i = .int .i64 k ∧ Below w0.heap.size w0 wr ∧ ∀ x ∈ l.take k, x ≠ m) (fun i _ => n - (intOf i).toNat)
  case atStart => exact ⟨0, by omega, rfl, Below.refl _ _, fun x hx => by simp at hx⟩
  case round =>
    obtain ⟨k, hkn, rfl, hB, hP⟩ := hrel
    have HPL := Lib.hid hP
    by_cases hlt : k < n
    · obtain ⟨x, hx⟩ : ∃ x, l[k]? = some x := ⟨_, List.getElem?_eq_getElem (by rw [← HN.out]; exact hlt)⟩
      have hbw0 := HB0.out.trans (hB.mono HB0.out.size)
      have hrow := HR.out.keep ((kept_below hbw0).sub HSLT.out)
      obtain ⟨ad, hA, _, a0, a1, a2⟩ := ms_at hrow hx
      have hbx2 := (hB.block _ HX0.out.1).trans HX0.out.2
      have hik : (0 : Int) ≤ (k : Int) ∧ (k : Int) < (n : Int) := ⟨by omega, by omega⟩
      have HX := Lib.hid hx
      have HTK : Hid (l.take (k + 1) = l.take k ++ [x]) := Lib.hid (take_snoc hx)
      have HAD := Lib.hid hA
      have hb1 : Below wr.heap.size wr (wr.alloc (.cells #[.int .i64 x.1, .int .i64 x.2.1, sv x.2.2] 40)) := (Below.refl _ _).alloc (Nat.le_refl _) _
      have HBR := Lib.hid (hB.trans (hb1.mono hB.size))
      have hltw : w.heap.size < wr.heap.size := lt_of_heap hbx2
      obtain ⟨c0, c1, c2⟩ := ms_blk hbx2 rfl
      rw [hA]
      clear hrow hx hbw0 hB hP hA hb1
      by_cases he : x = m
      · subst he
        have HF := Lib.hid HX.out
        go_wp2_with fail
        obtain ⟨w1, hw1⟩ : ∃ w1, w1 = wr.alloc (.cells #[.int .i64 x.1, .int .i64 x.2.1, sv x.2.2] 40) := ⟨_, rfl⟩
        rw [← hw1] at HBR ⊢
        clear hw1 a0 a1 a2 c0 c1 c2
        rw [← HAD.out]
        have HBW := Lib.hid (HB0.out.trans (HBR.out.mono HB0.out.size))
        have hwsz := HBW.out.size
        have hFR := HR.out.front (k * 3)
        rw [flt_take msC_len] at hFR
        have hBK := back_row msC_len HR.out (ys := l) HN.out.symm hc (k + 1)
        obtain ⟨SB, hSB⟩ : ∃ SB, SB = backOf A 3 c (k + 1) := ⟨_, rfl⟩
        rw [← hSB] at hBK
        have HSB := Lib.hid hSB
        have hkept : Kept S w w1 := (kept_below HBW.out).sub HSLT.out
        have HFR := Lib.hid (hFR.keep hkept)
        have HBK := Lib.hid (hBK.keep hkept)
        have hkc : (0 : Int) ≤ (k : Int) ∧ (k : Int) ≤ (c : Int) ∧ (k : Int) + 1 ≤ (c : Int) ∧ (k : Int) ≤ (n : Int) ∧ (k : Int) + 1 ≤ (n : Int) := ⟨by omega, by omega, by omega, by omega, by omega⟩
        have HWK : Hid (IntKind.i64.wrap ((k : Int) + 1) = ((k + 1 : Nat) : Int)) := Lib.hid (by rw [IntKind.wrap_i64]; omega)
        obtain ⟨i0, hi, hz0, hz1, hz2⟩ := info_parts infoMs
        clear hFR hBK hSB hkept HTK HX0 HBR
        refine wp_region_held' (fun _ => True) [0, 1, 2, 4, 5, 6, 7] [] [] [3, 8, 9, 10] (by kernel_rfl) (by kernel_rfl) ?sa ?ha
        case sa => trivial
        case ha =>
        simp only [opsAt, List.filterMap_cons, List.filterMap_nil, List.getElem?_toArray, List.getElem?_cons_succ, List.getElem?_cons_zero]
        refine wpFloat_step ?va0 rfl (fun w' => ?ya0) ?ka0
        case ya0 =>
          go_simp
          try rfl
        case ka0 =>
        go_simp
        refine wpFloat_step ?va1 rfl (fun w' => ?ya1) ?ka1
        case ya1 =>
          go_simp
          try rfl
        case ka1 =>
        go_simp
        refine wpFloat_step (.slice A k c) rfl (fun w' => ?ya2) ?ka2
        case ya2 =>
          go_simp
          try simp only [← front_of A k c 3]
          try rfl
        case ka2 =>
        go_simp
        refine wpFloat_step ?vb4 rfl (fun w' => ?yb4) ?kb4
        case yb4 =>
          go_simp
          try rfl
        case kb4 =>
        go_simp
        refine wpFloat_step ?vb5 rfl (fun w' => ?yb5) ?kb5
        case yb5 =>
          go_simp
          try rfl
        case kb5 =>
        go_simp
        refine wpFloat_step ?vb6 rfl (fun w' => ?yb6) ?kb6
        case yb6 =>
          go_simp
          try rfl
        case kb6 =>
        go_simp
        refine wpFloat_step (.slice SB (n - (k + 1)) (c - (k + 1))) rfl (fun w' => ?ya7) ?ka7
        case ya7 =>
          go_simp
          rw [HSB.out, HWK.out, if_pos ⟨by omega, by omega⟩]
          simp only [Int.toNat_natCast]
          rfl
        case ka7 =>
        go_simp
        refine wpFloat_nil ?_
        refine wpLoad_nil ?_
        refine wpKeep_nil ?_
        clear hkc
        refine (wpList_append_row rfl _ _ 22 rfl w.heap.size 40 i0 _ 3 32 Try.underlying22 hi hz0 hz1 hz2 rfl (by omega) (.slice none 0 0) 0 [] rfl (World.ownsRow_nil _ _ _ _) S A k c (flt msC (l.take k)) rfl (by rw [flt_length msC_len, List.length_take, ← HN.out]; congr 1; omega) (HFR.out.keep (fun _ _ => rfl)) (flt_one' msC_one _) (by unfold maxLen; omega) (by omega) (by show w.heap.size ≤ w1.heap.size; omega) ?_)
        intro v7 w7 hown7 hg7 _
        rw [Nat.zero_add, List.nil_append] at hown7
        obtain ⟨A7, c7, rfl, _⟩ := own_slice hown7
        have hb7 : Below w1.heap.size w1 w7 := (Below.refl _ w1).drew.grown hg7 (Nat.le_refl _) (fun r hr => by cases hr)
        have hrowB := HBK.out.keep ((kept_below hb7).sub fun y hy => by have := HSLT.out y hy; unfold Lt at this ⊢; omega)
        have hs7 := hb7.size
        have hlt7 := hown7.lt
        refine (wpList_append_row rfl _ _ 22 rfl w.heap.size 40 i0 _ 3 32 Try.underlying22 hi hz0 hz1 hz2 rfl (by omega) (.slice A7 k c7) k (flt msC (l.take k)) rfl hown7 S SB (n - (k + 1)) (c - (k + 1)) (flt msC (l.drop (k + 1))) rfl (by rw [flt_length msC_len, List.length_drop, ← HN.out]) hrowB (flt_one' msC_one _) (by unfold maxLen; omega) (by omega) (by omega) ?_)
        intro v8 w8 hown8 hg8 _
        have hk8 : Kp (fun y => w.heap.size ≤ y) w7 w8 := (Kp.refl _ _).grown hg8 (fun r hr _ => (hlt7 r hr).1)
        have hLN : l.erase x = l.take k ++ l.drop (k + 1) := erase_split HPL.out HX.out
        have hLNl : (l.erase x).length = k + (n - (k + 1)) := by rw [hLN, List.length_append, List.length_take, List.length_drop, ← HN.out]; omega
        rw [← flt_append, ← hLN] at hown8
        have hb8 : Below w.heap.size w w8 := kp_below (HBW.out.trans (hb7.mono hwsz)) hk8 fun _ e => e
        have HRES : Hid (TakeRes l x (.slice A n c) w (.returned (.tuple #[v8, .bool true])) w8) := Lib.hid ⟨v8, true, rfl, (decide_eq_true (List.mem_of_getElem? HX.out)).symm, hb8, fun _ => by rw [hLNl]; exact hown8, fun h => by cases h⟩
        obtain ⟨A8, c8, rfl, _⟩ := own_slice hown8
        clear hown7 hown8 hg7 hg8 hlt7 hk8 hb8 hrowB hLN hLNl HBK HFR hi hz0 hz1 hz2 hb7
        go_wp2
        refine NoPanic.normal ?_
        go_wp2
        go_ret2
        have hres := HRES.out
        rw [HAD.out] at hres
        exact hres
      · have HPN : Hid (∀ y ∈ l.take (k + 1), y ≠ m) := Lib.hid fun y hy => by
          rw [HTK.out] at hy
          rcases List.mem_append.1 hy with hy | hy
          · exact HPL.out y hy
          · rw [List.mem_singleton.1 hy]
            exact he
        by_cases e1 : x.1 = m.1
        · have q1 : (x.1 == m.1) = true := by simpa using e1
          by_cases e2 : x.2.1 = m.2.1
          · have q2 : (x.2.1 == m.2.1) = true := by simpa using e2
            have q3 : ((bs x.2.2).toList == (bs m.2.2).toList) = false := by
              rw [bs_toList, bs_toList]
              simpa using fun e3 => he (Prod.ext e1 (Prod.ext e2 e3))
            have E1 := Lib.hid e1
            have E2 := Lib.hid e2
            clear e1 e2 he
            go_wp2_with fail
            go_roundw
            case rel => exact ⟨k + 1, by omega, by go_num, HBR.out, HPN.out⟩
            case measure => simp [intOf]; omega
          · have q2 : (x.2.1 == m.2.1) = false := by simpa using e2
            clear e1 e2 he
            go_wp2_with fail
            go_roundw
            case rel => exact ⟨k + 1, by omega, by go_num, HBR.out, HPN.out⟩
            case measure => simp [intOf]; omega
        · have q1 : (x.1 == m.1) = false := by simpa using e1
          clear e1 he
          go_wp2_with fail
          go_roundw
          case rel => exact ⟨k + 1, by omega, by go_num, HBR.out, HPN.out⟩
          case measure => simp [intOf]; omega
    · have HB := Lib.hid (HB0.out.trans (hB.mono HB0.out.size))
      have hke : k = n := by omega
      have HNM : Hid (false = decide (m ∈ l)) := Lib.hid (decide_eq_false fun hm => by
        have := HPL.out m (by rw [List.take_of_length_le (by rw [← HN.out]; omega)]; exact hm)
        exact this rfl).symm
      clear hB hP hke
      go_wp2
      go_ret2
      exact ⟨_, false, rfl, HNM.out, HB.out, (fun h => by cases h), fun _ => rfl⟩

set_option maxHeartbeats 1600000 in
set_option maxRecDepth 100000 in
theorem rsorted_any (S : Nat → Prop) (l : List Msg) (A : Option Addr) (c : Nat) (w : World) (hS : ∀ y, S y → Lt w.heap.size y) (hl : l.length ≤ 1000000) (h : Row w S A (flt msC l)) :
    Calls Try.prog 13 #[.slice A l.length c] w (RowRes (srtM l) w) := by
  obtain ⟨n, hn⟩ : ∃ n, n = l.length := ⟨_, rfl⟩
  rw [← hn] at hl ⊢
  have HN := Lib.hid hn
  have HR := Lib.hid h
  have HSLT := Lib.hid hS
  clear hn h hS
  go_enter Try.func13, Try.ntmps13
  go_wp2_with fail
  go_loopw [3, 8] (fun v i wr => ∃ k : Nat, k ≤ n ∧ i = .int .i64 k ∧ Below w.heap.size w wr ∧ wr.ownsRow w.heap.size 40 3 v (srtM (l.take k)).length (flt msC (srtM (l.take k)))) (fun _ i _ => n - (intOf i).toNat)
  case atStart => exact ⟨0, by omega, rfl, Below.refl _ _, World.ownsRow_nil _ _ _ _⟩
  case round =>
    obtain ⟨k, hkn, rfl, hB, hown⟩ := hrel
    obtain ⟨LA, lc, rfl, _⟩ := own_slice hown
    have hle := own_le hown
    have hln : (srtM (l.take k)).length = k := by rw [srtM_len, List.length_take, ← HN.out]; omega
    have HOWN := Lib.hid hown
    by_cases hlt : k < n
    · obtain ⟨x, hx⟩ : ∃ x, l[k]? = some x := ⟨_, List.getElem?_eq_getElem (by rw [← HN.out]; exact hlt)⟩
      have hrow := HR.out.keep ((kept_below hB).sub HSLT.out)
      obtain ⟨ad, rfl, _, a0, a1, a2⟩ := ms_at hrow hx
      have hik : (0 : Int) ≤ (k : Int) ∧ (k : Int) < (n : Int) := ⟨by omega, by omega⟩
      have HST : Hid (srtM (l.take (k + 1)) = insM x (srtM (l.take k))) := Lib.hid (by rw [take_snoc hx]; exact insAll_snoc [] _ x)
      obtain ⟨w1, hw1⟩ : ∃ w1, w1 = wr.alloc (.cells #[.int .i64 x.1, .int .i64 x.2.1, sv x.2.2] 40) := ⟨_, rfl⟩
      have hb1 : Below wr.heap.size wr w1 := by rw [hw1]; exact (Below.refl _ _).alloc (Nat.le_refl _) _
      have hown1 := (Kp.ofBelow (M := fun _ => False) hb1).own hown fun _ _ e => e
      have HI := Lib.hid (insert_any (Lt w1.heap.size) (srtM (l.take k)) x LA lc w1 (fun _ h => h) hle.1 (by omega) (Row.ofOwn hown1 fun _ _ _ h => h))
      have HB1 := Lib.hid (hB.trans (hb1.mono hB.size))
      have HW1 := Lib.hid hw1
      rw [hln] at HI ⊢
      have hs1 := HB1.out.size
      clear hown hle hrow hx hB hown1 hw1 HOWN hb1
      go_wp2_with fail
      rw [← HW1.out]
      refine HI.out.mono ?_
      rintro e w2 ⟨v, rfl, hown, hb2⟩
      rw [← HST.out] at hown
      obtain ⟨A2, c2, rfl, _⟩ := own_slice hown
      have HB2 := Lib.hid (HB1.out.trans (hb2.mono hs1))
      have HO2 := Lib.hid (ownMono hown hs1)
      obtain ⟨n2, hn2⟩ : ∃ n2, n2 = (srtM (l.take (k + 1))).length := ⟨_, rfl⟩
      have HN2 := Lib.hid hn2
      rw [← hn2]
      clear hown hb2 HI HST HW1 hn2
      go_wp2
      go_roundw
      case rel => exact ⟨k + 1, by omega, by go_num, HB2.out, by rw [← HN2.out]; have := HO2.out; rw [← HN2.out] at this; exact this⟩
      case measure => simp [intOf]; omega
    · have hke : k = n := by omega
      have hlk : l.take k = l := List.take_of_length_le (by rw [← HN.out]; omega)
      have HRES : Hid (RowRes (srtM l) w (.returned (.slice LA (srtM (l.take k)).length lc)) wr) := Lib.hid ⟨_, rfl, by rw [hlk] at hown; rw [hlk]; exact hown, hB⟩
      obtain ⟨n2, hn2⟩ : ∃ n2, n2 = (srtM (l.take k)).length := ⟨_, rfl⟩
      rw [← hn2] at HRES ⊢
      clear hown hle hB HOWN hke hlk hln hn2
      go_wp2
      go_ret
      exact HRES.out
end Go.Proofs.Ytlgdminpkkhejaa
